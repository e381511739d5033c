/-
  DctTwice: The samples of a spectrum's samples are N/2 times that spectrum, but for a hundredth of its greatest number, and 4, for each number.
  (One text out of these parts: DctT, DctU, Law, LaidC, DctTwiceRow.)
-/
import Derived.Test.YtcibajleknhklaaDoorDtwa
import Derived.ProofKit
import Derived.LaidMore
import Derived.OpenShut
import Derived.Stop.Joined
import Derived.Lib.LaidTab
import Derived.Test.YtcibajleknhklaaDoorRows
import Derived.Test.YtcibajleknhklaaDoorCards
import Derived.Test.YtcibajleknhklaaDoorTie
import Derived.SevenTiedAt
section
namespace Go.Proofs.YtcibajleknhklaaDoor
open Go.RowKit
set_option linter.unusedSimpArgs false
set_option linter.unusedVariables false
def conjP (p : Int × Int) : Int × Int := (p.1, -p.2)
/-- What the pair at i counts in the k-th sum of sums, but for what it is to count. -/
def dTo (s i k : Nat) : Nat → Int × Int
  | 0 => (0, 0)
  | m + 1 => ((dTo s i k m).1 + (wmul (cF s m i) (conjP (cF s k m))).1, (dTo s i k m).2 + (wmul (cF s m i) (conjP (cF s k m))).2)
def eF (s k i : Nat) : Int × Int := if i = k then ((dTo s i k (2 ^ s)).1 - 2 ^ s * (2 ^ (dctSh s) * 2 ^ (dctSh s)), (dTo s i k (2 ^ s)).2) else dTo s i k (2 ^ s)
theorem e_ok : ∀ s : Fin 3, ∀ k : Fin 16, k.val < 2 ^ (s.val + 2) → 100 * absTo (eF (s.val + 2) k.val) (2 ^ (s.val + 2)) ≤ 2 ^ (s.val + 3) * (2 ^ (12 * (s.val + 4)) * 2 ^ (12 * (s.val + 4))) := by decide +kernel
theorem eS (s : Nat) (h1 : 2 ≤ s) (h2 : s ≤ 4) (k : Nat) (hk : k < 2 ^ s) : 100 * absTo (eF s k) (2 ^ s) ≤ 2 ^ (s + 1) * (2 ^ (dctSh s) * 2 ^ (dctSh s)) := by
  obtain ⟨t, rfl⟩ : ∃ t, s = t + 2 := ⟨s - 2, by omega⟩
  have h16 : 2 ^ (t + 2) ≤ 16 := Nat.pow_le_pow_right (by decide) (show t + 2 ≤ 4 from h2)
  exact e_ok ⟨t, by omega⟩ ⟨k, by omega⟩ hk
/-- Sums of pairs. -/
def sumP (F : Nat → Int × Int) : Nat → Int × Int
  | 0 => (0, 0)
  | m + 1 => ((sumP F m).1 + (F m).1, (sumP F m).2 + (F m).2)
theorem lin_sum (X C : Nat → Int × Int) : ∀ m, linTo X C m = sumP (fun j => wmul (X j) (C j)) m
  | 0 => rfl
  | m + 1 => by rw [linTo, sumP, lin_sum X C m]
theorem sumP_ext (F G : Nat → Int × Int) : ∀ m, (∀ j, j < m → F j = G j) → sumP F m = sumP G m
  | 0, _ => rfl
  | m + 1, h => by rw [sumP, sumP, sumP_ext F G m (fun j hj => h j (by omega)), h m (by omega)]
theorem sumP_add (F G : Nat → Int × Int) : ∀ m, sumP (fun j => ((F j).1 + (G j).1, (F j).2 + (G j).2)) m = ((sumP F m).1 + (sumP G m).1, (sumP F m).2 + (sumP G m).2)
  | 0 => rfl
  | m + 1 => by
    rw [sumP, sumP_add F G m, sumP, sumP]
    simp only [Prod.mk.injEq]
    constructor <;> omega
theorem sumP_zero : ∀ m, sumP (fun _ => (0, 0)) m = (0, 0)
  | 0 => rfl
  | m + 1 => by rw [sumP, sumP_zero m]; rfl
theorem sumP_mul (F : Nat → Int × Int) (p : Int × Int) : ∀ m, wmul (sumP F m) p = sumP (fun j => wmul (F j) p) m
  | 0 => by simp [sumP, wmul]
  | m + 1 => by rw [sumP, wmul_add', sumP_mul F p m, sumP]
/-- Sums change places. -/
theorem sumP_swap (F : Nat → Nat → Int × Int) (n : Nat) : ∀ m, sumP (fun j => sumP (fun i => F i j) n) m = sumP (fun i => sumP (fun j => F i j) m) n
  | 0 => (sumP_zero n).symm
  | m + 1 => by
    rw [sumP, sumP_swap F n m, ← sumP_add]
    rfl
theorem sumP_conj (F : Nat → Int × Int) : ∀ m, conjP (sumP F m) = sumP (fun j => conjP (F j)) m
  | 0 => rfl
  | m + 1 => by
    rw [sumP, sumP, ← sumP_conj F m]
    unfold conjP
    simp only [Prod.mk.injEq, true_and]
    omega
theorem conj_mul (p q : Int × Int) : conjP (wmul p q) = wmul (conjP p) (conjP q) := by
  unfold conjP wmul
  simp only [Prod.mk.injEq]
  constructor <;> grind
theorem conj_conj (p : Int × Int) : conjP (conjP p) = p := by unfold conjP; simp
theorem mul_sumP (F : Nat → Int × Int) (p : Int × Int) : ∀ m, wmul p (sumP F m) = sumP (fun j => wmul p (F j)) m
  | 0 => by simp [sumP, wmul]
  | m + 1 => by
    rw [sumP, sumP, ← mul_sumP F p m]
    unfold wmul
    simp only [Prod.mk.injEq]
    constructor <;> grind
theorem dTo_sum (s i k : Nat) : ∀ m, dTo s i k m = sumP (fun j => wmul (cF s j i) (conjP (cF s k j))) m
  | 0 => rfl
  | m + 1 => by rw [dTo, sumP, dTo_sum s i k m]
/-- The sums of the opposites of sums. -/
theorem twice_lin (s : Nat) (X : Nat → Int × Int) (k : Nat) (h : Nat) :
    conjP (linTo (fun j => conjP (linTo X (cF s j) h)) (cF s k) h) = sumP (fun i => wmul (X i) (dTo s i k h)) h := by
  rw [lin_sum, sumP_conj]
  have e1 : (fun j => conjP (wmul (conjP (linTo X (cF s j) h)) (cF s k j))) = fun j => sumP (fun i => wmul (wmul (X i) (cF s j i)) (conjP (cF s k j))) h := by
    funext j
    rw [conj_mul, conj_conj, lin_sum, sumP_mul]
  rw [e1, sumP_swap (fun i j => wmul (wmul (X i) (cF s j i)) (conjP (cF s k j))) h h]
  refine sumP_ext _ _ h fun i _ => ?_
  rw [dTo_sum, mul_sumP]
  refine sumP_ext _ _ h fun j _ => ?_
  rw [wmul_assoc]
theorem sum_one (X : Nat → Int × Int) (D E : Nat → Int × Int) (k : Nat) (B : Int) (hE : ∀ i, E i = if i = k then ((D i).1 - B, (D i).2) else D i) : ∀ m, sumP (fun i => wmul (X i) (D i)) m = ((linTo X E m).1 + (if k < m then B * (X k).1 else 0), (linTo X E m).2 + (if k < m then B * (X k).2 else 0))
  | 0 => by simp [sumP, linTo]
  | m + 1 => by
    rw [sumP, sum_one X D E k B hE m, linTo, hE m]
    by_cases e : m = k
    · subst e
      rw [if_pos rfl, if_neg (by omega), if_neg (by omega), if_pos (by omega), if_pos (by omega)]
      unfold wmul
      simp only [Prod.mk.injEq]
      constructor <;> grind
    · rw [if_neg e]
      by_cases h : k < m
      · rw [if_pos h, if_pos h, if_pos (by omega), if_pos (by omega)]
        simp only [Prod.mk.injEq]
        constructor <;> omega
      · rw [if_neg h, if_neg h, if_neg (by omega), if_neg (by omega)]
        simp only [Prod.mk.injEq]
        constructor <;> omega
theorem lin_scale (c : Int) (X C : Nat → Int × Int) : ∀ m, linTo (fun j => (c * (X j).1, c * (X j).2)) C m = (c * (linTo X C m).1, c * (linTo X C m).2)
  | 0 => by simp [linTo]
  | m + 1 => by
    rw [linTo, lin_scale c X C m, linTo]
    unfold wmul
    simp only [Prod.mk.injEq]
    constructor <;> grind
theorem lin_ext (X Y C : Nat → Int × Int) (m : Nat) (h : ∀ j, j < m → X j = Y j) : linTo X C m = linTo Y C m := by
  rw [lin_sum, lin_sum]
  exact sumP_ext _ _ m fun j hj => by rw [h j hj]
theorem pairV (s : Nat) (x : Nat → Int) (k : Nat) (hk : k < 2 ^ s) : pairX (2 ^ (s + 1)) (dctV s x) k = conjP (dctY s x k) := by
  have hn : 2 ^ (s + 1) = 2 ^ s + 2 ^ s := by rw [Nat.pow_succ]; omega
  have hev : 2 ^ (s + 1) % 2 = 0 := by omega
  unfold pairX conjP dctV
  rw [if_pos (by omega), if_neg (by omega), show 2 * k / 2 = k from by omega, show (2 ^ (s + 1) - 1 - (2 ^ (s + 1) - 1 - 2 * k)) / 2 = k from by omega]
/-- What is left when samples are made of samples: the near form. -/
theorem twice_pair (s : Nat) (h1 : 2 ≤ s) (h2 : s ≤ 4) (G : Int) (hG : 0 ≤ G) (hG2 : G ≤ 262144) (x : Nat → Int) (hx : ∀ j, j < 2 ^ (s + 1) → -G ≤ x j ∧ x j ≤ G) (k : Nat) (hk : k < 2 ^ s) :
    ∃ L E : Int × Int, small (G * absTo (eF s k) (2 ^ s)) L ∧ small (2 ^ (dctSh s - 1) * absTo (cF s k) (2 ^ s)) E ∧
      2 ^ (dctSh s) * (conjP (dctY s (dctF s x) k)).1 = L.1 + 2 ^ s * (2 ^ (dctSh s) * 2 ^ (dctSh s)) * x (2 * k) + E.1 ∧
      2 ^ (dctSh s) * (conjP (dctY s (dctF s x) k)).2 = L.2 + 2 ^ s * (2 ^ (dctSh s) * 2 ^ (dctSh s)) * x (2 ^ (s + 1) - 1 - 2 * k) + E.2 := by
  have hn : 2 ^ (s + 1) = 2 ^ s + 2 ^ s := by rw [Nat.pow_succ]; omega
  have hs : 0 < dctSh s := by unfold dctSh; omega
  have hA : ∀ i, i < 2 ^ (s + 1) → dctF s x i = rnd (dctSh s) (dctV s x i) := fun i hi => (dct_free s h1 h2 G hG (by omega) x hx i hi).1
  obtain ⟨e, he⟩ : ∃ e : Nat → Int, e = fun i => 2 ^ (dctSh s) * dctF s x i - dctV s x i := ⟨_, rfl⟩
  have heb : ∀ i, i < 2 ^ (s + 1) → -(2 ^ (dctSh s - 1)) ≤ e i ∧ e i ≤ 2 ^ (dctSh s - 1) := fun i hi => by
    have := rnd_err (dctSh s) hs (dctV s x i)
    rw [he]
    simp only
    rw [hA i hi]
    omega
  have hXe : ∀ j, j < 2 ^ s → small (2 ^ (dctSh s - 1)) (pairX (2 ^ (s + 1)) e j) := fun j hj => by
    have a := heb (2 * j) (by omega)
    have b := heb (2 ^ (s + 1) - 1 - 2 * j) (by omega)
    unfold small pairX; simp only; omega
  have hXx : ∀ j, j < 2 ^ s → small G (pairX (2 ^ (s + 1)) x j) := fun j hj => by
    have a := hx (2 * j) (by omega)
    have b := hx (2 ^ (s + 1) - 1 - 2 * j) (by omega)
    unfold small pairX; simp only; omega
  have e1 : linTo (fun j => (2 ^ (dctSh s) * (pairX (2 ^ (s + 1)) (dctF s x) j).1, 2 ^ (dctSh s) * (pairX (2 ^ (s + 1)) (dctF s x) j).2)) (cF s k) (2 ^ s) =
      linTo (fun j => ((conjP (linTo (pairX (2 ^ (s + 1)) x) (cF s j) (2 ^ s))).1 + (pairX (2 ^ (s + 1)) e j).1, (conjP (linTo (pairX (2 ^ (s + 1)) x) (cF s j) (2 ^ s))).2 + (pairX (2 ^ (s + 1)) e j).2)) (cF s k) (2 ^ s) := by
    refine lin_ext _ _ _ _ fun j hj => ?_
    have hv := pairV s x j hj
    rw [dctY_lin] at hv
    rw [← hv, he]
    unfold pairX
    simp only [Prod.mk.injEq]
    constructor <;> omega
  rw [lin_scale, lin_add (fun j => conjP (linTo (pairX (2 ^ (s + 1)) x) (cF s j) (2 ^ s))) (pairX (2 ^ (s + 1)) e), ← dctY_lin] at e1
  have e2 := twice_lin s (pairX (2 ^ (s + 1)) x) k (2 ^ s)
  rw [sum_one (pairX (2 ^ (s + 1)) x) (fun i => dTo s i k (2 ^ s)) (eF s k) k (2 ^ s * (2 ^ (dctSh s) * 2 ^ (dctSh s))) (fun i => rfl) (2 ^ s), if_pos hk, if_pos hk] at e2
  have L1 := lin_small G _ (eF s k) (2 ^ s) hXx
  have L2 := lin_small (2 ^ (dctSh s - 1)) _ (cF s k) (2 ^ s) hXe
  refine ⟨linTo (pairX (2 ^ (s + 1)) x) (eF s k) (2 ^ s), conjP (linTo (pairX (2 ^ (s + 1)) e) (cF s k) (2 ^ s)), L1, ?_, ?_, ?_⟩
  · unfold small conjP at *; simp only; omega
  · have a1 := congrArg Prod.fst e1
    have a2 := congrArg Prod.fst e2
    unfold conjP pairX at *
    simp only at a1 a2 ⊢
    omega
  · have a1 := congrArg Prod.snd e1
    have a2 := congrArg Prod.snd e2
    unfold conjP pairX at *
    simp only at a1 a2 ⊢
    rw [Int.mul_neg]
    omega
theorem near_end (P M H n q G aE aC L E b v f hx : Int) (hM : M = H * 2) (hP : P = M * M) (hH : 0 < H) (hn : 0 < n) (hG : 0 ≤ G) (hq : G ≤ 100 * q + 99) (hq0 : 0 ≤ q) (haE0 : 0 ≤ aE) (haE : 100 * aE ≤ n * P) (haC : aC ≤ n * M)
    (hL : -(G * aE) ≤ L ∧ L ≤ G * aE) (hE : -(H * aC) ≤ E ∧ E ≤ H * aC) (hv : M * v = L + hx * P + E) (hf : M * b - v = f) (hf2 : -H ≤ f ∧ f ≤ H) : -(n * (q + 4)) ≤ b - hx ∧ b - hx ≤ n * (q + 4) := by
  have hMp : 0 < M := by omega
  have hPp : 0 < P := by rw [hP]; exact Int.mul_pos hMp hMp
  have k1 : G * aE ≤ (q + 1) * (n * P) := by
    have a : G * aE ≤ (100 * q + 99) * aE := Int.mul_le_mul_of_nonneg_right hq haE0
    have b : (q + 1) * (100 * aE) ≤ (q + 1) * (n * P) := Int.mul_le_mul_of_nonneg_left haE (by omega)
    have c : (100 * q + 99) * aE = 100 * (q * aE) + 99 * aE := by grind
    have d : (q + 1) * (100 * aE) = 100 * (q * aE) + 100 * aE := by grind
    omega
  have k2 : 2 * (H * aC) ≤ n * P := by
    have a : H * aC ≤ H * (n * M) := Int.mul_le_mul_of_nonneg_left haC (by omega)
    have b : 2 * (H * (n * M)) = n * P := by rw [hP]; subst hM; grind
    omega
  have k3 : -P ≤ 2 * (M * f) ∧ 2 * (M * f) ≤ P := by
    have a := Int.mul_le_mul_of_nonneg_left hf2.1 (Int.le_of_lt hMp)
    have b := Int.mul_le_mul_of_nonneg_left hf2.2 (Int.le_of_lt hMp)
    have c : 2 * (M * H) = P := by rw [hP]; subst hM; grind
    have d : M * -H = -(M * H) := by grind
    omega
  have k4 : P * (b - hx) = L + E + M * f := by
    have a : M * f = P * b - M * v := by rw [← hf, hP]; grind
    have c : P * (b - hx) = P * b - hx * P := by grind
    omega
  have hnP : 0 < n * P := Int.mul_pos hn hPp
  have k5 : (q + 1) * (n * P) = q * (n * P) + n * P := by grind
  have k6 : P ≤ n * P := by
    have := Int.mul_le_mul_of_nonneg_right (show 1 ≤ n by omega) (Int.le_of_lt hPp)
    omega
  constructor
  · rcases Int.lt_or_le (b - hx) (-(n * (q + 4))) with h | h
    · have a := Int.mul_le_mul_of_nonneg_left (show b - hx ≤ -(n * (q + 4)) by omega) (Int.le_of_lt hPp)
      have c : P * -(n * (q + 4)) = -(q * (n * P) + 4 * (n * P)) := by grind
      omega
    · exact h
  · rcases Int.lt_or_le (n * (q + 4)) (b - hx) with h | h
    · have a := Int.mul_le_mul_of_nonneg_left (show n * (q + 4) ≤ b - hx by omega) (Int.le_of_lt hPp)
      have c : P * (n * (q + 4)) = q * (n * P) + 4 * (n * P) := by grind
      omega
    · exact h
theorem absTo_nonneg (C : Nat → Int × Int) : ∀ m, 0 ≤ absTo C m
  | 0 => Int.le_refl _
  | m + 1 => by
    have := absTo_nonneg C m
    have a := ab_le (C m).1
    have b := ab_le (C m).2
    rw [absTo]; omega
/-- The samples of samples. -/
theorem dct_twice (s : Nat) (h1 : 2 ≤ s) (h2 : s ≤ 4) (G : Int) (hG : 0 ≤ G) (hG2 : G ≤ 262144) (x : Nat → Int) (hx : ∀ j, j < 2 ^ (s + 1) → -G ≤ x j ∧ x j ≤ G) (i : Nat) (hi : i < 2 ^ (s + 1)) :
    -(2 ^ (s + 1) * (G / 100 + 4)) ≤ dctF s (dctF s x) i - 2 ^ s * x i ∧ dctF s (dctF s x) i - 2 ^ s * x i ≤ 2 ^ (s + 1) * (G / 100 + 4) := by
  have hn : 2 ^ (s + 1) = 2 ^ s + 2 ^ s := by rw [Nat.pow_succ]; omega
  have hs : 0 < dctSh s := by unfold dctSh; omega
  have hA : ∀ j, j < 2 ^ (s + 1) → -8388609 ≤ dctF s x j ∧ dctF s x j ≤ 8388609 := fun j hj => by
    have := dct_free s h1 h2 G hG (by omega) x hx j hj
    omega
  obtain ⟨hb, -⟩ := dct_free s h1 h2 8388609 (by decide) (by decide) (dctF s x) hA i hi
  have hre := rnd_err (dctSh s) hs (dctV s (dctF s x) i)
  rw [← hb] at hre
  have hM : (2 : Int) ^ (dctSh s) = 2 ^ (dctSh s - 1) * 2 := by conv => lhs; rw [show dctSh s = (dctSh s - 1) + 1 from by omega, Int.pow_succ]
  have hp : (0 : Int) < 2 ^ (dctSh s - 1) := Int.pow_pos (by decide)
  have hnp : (0 : Int) < 2 ^ (s + 1) := Int.pow_pos (by decide)
  have key : ∀ k, k < 2 ^ s → ∀ v L E xi : Int, v = dctV s (dctF s x) i → xi = x i → (-(G * absTo (eF s k) (2 ^ s)) ≤ L ∧ L ≤ G * absTo (eF s k) (2 ^ s)) → (-(2 ^ (dctSh s - 1) * absTo (cF s k) (2 ^ s)) ≤ E ∧ E ≤ 2 ^ (dctSh s - 1) * absTo (cF s k) (2 ^ s)) →
      2 ^ (dctSh s) * v = L + 2 ^ s * (2 ^ (dctSh s) * 2 ^ (dctSh s)) * xi + E → -(2 ^ (s + 1) * (G / 100 + 4)) ≤ dctF s (dctF s x) i - 2 ^ s * x i ∧ dctF s (dctF s x) i - 2 ^ s * x i ≤ 2 ^ (s + 1) * (G / 100 + 4) := by
    intro k hk v L E xi hv hxi hL hE he
    refine near_end (2 ^ (dctSh s) * 2 ^ (dctSh s)) (2 ^ (dctSh s)) (2 ^ (dctSh s - 1)) (2 ^ (s + 1)) (G / 100) G (absTo (eF s k) (2 ^ s)) (absTo (cF s k) (2 ^ s)) L E _ v _ _ hM rfl hp hnp hG (by omega) (by omega) (absTo_nonneg _ _) (eS s h1 h2 k hk) (absS s h1 h2 k hk) hL hE ?_ rfl ?_
    · rw [he, hxi]; grind
    · rw [hv]; omega
  by_cases c : i % 2 = 0
  · obtain ⟨L, E, hL, hE, e1, -⟩ := twice_pair s h1 h2 G hG hG2 x hx (i / 2) (by omega)
    refine key (i / 2) (by omega) _ L.1 E.1 (x (2 * (i / 2))) ?_ (by rw [show 2 * (i / 2) = i from by omega]) ⟨hL.1, hL.2.1⟩ ⟨hE.1, hE.2.1⟩ e1
    unfold conjP dctV
    rw [if_pos c]
  · have hk : (2 ^ (s + 1) - 1 - i) / 2 < 2 ^ s := by omega
    obtain ⟨L, E, hL, hE, -, e2⟩ := twice_pair s h1 h2 G hG hG2 x hx ((2 ^ (s + 1) - 1 - i) / 2) hk
    refine key _ hk _ L.2 E.2 (x (2 ^ (s + 1) - 1 - 2 * ((2 ^ (s + 1) - 1 - i) / 2))) ?_ (by rw [show 2 ^ (s + 1) - 1 - 2 * ((2 ^ (s + 1) - 1 - i) / 2) = i from by omega]) ⟨hL.2.2.1, hL.2.2.2⟩ ⟨hE.2.2.1, hE.2.2.2⟩ e2
    unfold conjP dctV
    rw [if_neg c]
end Go.Proofs.YtcibajleknhklaaDoor
end

section
namespace Go.Proofs.YtcibajleknhklaaDoor
open Go.RowKit Go.BigFrame Go.Proofs.YtcibajleknhklaaDoorW.PrintWords Go.Proofs.YtcibajleknhklaaDoorW.PrintLast Go.Proofs.YtcibajleknhklaaDoorW.PrintMore
set_option linter.unusedSimpArgs false
set_option linter.unusedVariables false
/-- The greatest of so many numbers, without signs. -/
def gTo (X : Nat → Int) : Nat → Int
  | 0 => 0
  | k + 1 => max (gTo X k) (max (X k) (-(X k)))
theorem gTo_nonneg (X : Nat → Int) : ∀ k, 0 ≤ gTo X k
  | 0 => Int.le_refl _
  | k + 1 => by have := gTo_nonneg X k; rw [gTo]; omega
theorem gTo_le (X : Nat → Int) (B : Int) (hB : 0 ≤ B) : ∀ k, (∀ j, j < k → -B ≤ X j ∧ X j ≤ B) → gTo X k ≤ B
  | 0, _ => hB
  | k + 1, h => by
    have := gTo_le X B hB k (fun j hj => h j (by omega))
    have := h k (by omega)
    rw [gTo]; omega
theorem gTo_ge (X : Nat → Int) : ∀ k j, j < k → -(gTo X k) ≤ X j ∧ X j ≤ gTo X k
  | 0, j, h => by omega
  | k + 1, j, h => by
    rw [gTo]
    by_cases e : j = k
    · subst e; omega
    · have := gTo_ge X k j (by omega)
      omega
set_option maxHeartbeats 4000000 in
set_option maxRecDepth 100000 in
theorem dctTwice_any (a : Int) (ha : 0 ≤ a ∧ a ≤ 255) (X : Nat → Int) (hX : ∀ i, -2147483648 ≤ X i ∧ X i ≤ 2147483647) (w : World) (hT : CosW w) :
    Calls Tryd.prog 5 #[.int .u8 a, .agg (ag k32 32 X)] w fun e w' => e = .returned (.bool true) ∧ Below w.heap.size w w' := by
  have HAW := Lib.hid (fun w h => awake22 w h)
  obtain ⟨t, ht, ht3⟩ : ∃ t : Nat, a % 3 = (t : Int) ∧ t < 3 := ⟨(a % 3).toNat, by omega, by omega⟩
  obtain ⟨s, hs⟩ : ∃ s, s = t + 2 := ⟨_, rfl⟩
  have h1 : 2 ≤ s := by omega
  have h2 : s ≤ 4 := by omega
  have hpl := fun b c x w hT hb hx hx32 => dctPlain_any s h1 h2 b 0 c x w hT hb hx hx32
  have htw := dct_twice s h1 h2
  have hps : (2 : Int) ^ s = ((2 ^ s : Nat) : Int) := by simp
  have hpn : (2 : Int) ^ (s + 1) = ((2 ^ (s + 1) : Nat) : Int) := by simp
  rw [hps, hpn] at htw
  obtain ⟨n, hn⟩ : ∃ n : Nat, 2 ^ (s + 1) = n := ⟨_, rfl⟩
  obtain ⟨h, hh⟩ : ∃ h : Nat, 2 ^ s = h := ⟨_, rfl⟩
  have hnh : n = h + h := by rw [← hn, ← hh, Nat.pow_succ]; omega
  have hn8 : 8 ≤ n ∧ n ≤ 32 := by
    rcases dct_s s h1 h2 with rfl | rfl | rfl <;> (rw [← hn]; decide)
  have hsh : wrap64 (8 * 2 ^ t) = (n : Int) := by
    have : t = 0 ∨ t = 1 ∨ t = 2 := by omega
    rcases this with rfl | rfl | rfl <;> (subst hs; rw [← hn]; decide +kernel)
  rw [hn] at hpl htw
  rw [hh] at htw
  simp only [Nat.zero_add] at hpl
  have HPL := Lib.hid hpl
  have HTW := Lib.hid htw
  have HC := Lib.hid hT
  have HTT := Lib.hid ht
  have HSH := Lib.hid hsh
  have HX := Lib.hid hX
  have HNH := Lib.hid hnh
  clear hpl htw hT ht hsh hX hn hh hs hps hpn hnh
  go_enter Tryd.func5, Tryd.ntmps5
  go_wp2_with fail
  have hb0 : Below w.heap.size w (w.alloc (.cells (ag k32 32 X) T32)) := by (repeat' (first | (with_reducible exact Below.refl _ _) | (with_reducible assumption) | (with_reducible refine Below.alloc ?_ ?_ _) | (with_reducible refine below_grew ?_ ?_ _) | (with_reducible refine Below.setCell ?_ ?_ _) | (with_reducible refine Below.drew ?_) | (with_reducible refine below_drewN ?_ _) | omega | (simp; done) | (simp; omega)))
  have hx0 : Bx w.heap.size T32 k32 32 X (w.alloc (.cells (ag k32 32 X) T32)) := alloc_at _ _
  refine (HAW.out _ (HC.out.below hb0)).mono ?_
  rintro e w1 ⟨rfl, hb1⟩
  have HX1 := Lib.hid (hx0.keep hb1)
  have HB1 := Lib.hid (hb0.trans (hb1.mono hb0.size))
  have hxl : w.heap.size < w1.heap.size := Nat.lt_of_lt_of_le (by simp) hb1.size
  clear hb0 hx0 hb1 HAW
  have hn32 : (n : Int) ≤ 32 := by omega
  have hn0 : (0 : Int) ≤ n := by omega
  go_upto_region 5 with fail
  rw [HTT.out, Int.toNat_natCast, HSH.out]
  go_wp2_with fail
  go_loopw [20, 6] (fun cnt gr wr => ∃ k : Nat, k ≤ n ∧ cnt = .int .i64 k ∧ gr = .int .i64 (gTo X k) ∧ (∀ j, j < k → -262144 ≤ X j ∧ X j ≤ 262144) ∧ Below w1.heap.size w1 wr) (fun cnt _ _ => n - (intOf cnt).toNat)
  case atStart => exact ⟨0, by omega, rfl, rfl, fun j hj => by omega, Below.refl _ _⟩
  case round =>
    obtain ⟨k, hk, rfl, rfl, hok, hb⟩ := hrel
    have hXR := HX1.out.keep hb
    have hxr := (block_facts hXR).2.2
    have HXR := Lib.hid hXR
    have HOK := Lib.hid hok
    have HBR := Lib.hid hb
    have HBW := Lib.hid (HB1.out.trans (hb.mono HB1.out.size))
    clear hXR hok hb
    by_cases hlt : k < n
    · have hlt' : (k : Int) < n := by omega
      have hk0 : (0 : Int) ≤ k := by omega
      have cx := ag_cell HXR.out k (by omega)
      simp only [k32] at cx
      obtain ⟨p, hx⟩ : ∃ p, X k = p := ⟨_, rfl⟩
      rw [hx] at cx
      have hpb := HX.out k
      rw [hx] at hpb
      have HXK := Lib.hid hx
      by_cases hmx : 262144 < p
      · clear hx
        go_wp2_with fail
        go_ret
        exact ⟨rfl, HBW.out⟩
      · by_cases hmn : p < -262144
        · clear hx
          go_wp2_with fail
          go_ret
          exact ⟨rfl, HBW.out⟩
        · have e1 : wrap64 p = p := w64_id (by omega) (by omega)
          have e2 : wrap64 (-p) = -p := w64_id (by omega) (by omega)
          have hp2 : -262144 ≤ p ∧ p ≤ 262144 := by omega
          have HP2 := Lib.hid hp2
          clear hx hp2
          go_wp2_with fail
          refine ⟨⟨k + 1, by omega, by go_num, by rw [gTo, HXK.out], fun j hj => ?_, HBR.out⟩, by simp only [intOf]; omega⟩
          by_cases e : j = k
          · subst e; rw [HXK.out]; exact HP2.out
          · exact HOK.out j (by omega)
    · obtain rfl : n = k := by omega
      go_wp2_with fail
      refine (HPL.out w.heap.size 32 X wr (HC.out.below HBW.out) hxr (fun i hi => ag_cell HXR.out i (by omega)) HX.out).mono ?_
      rintro e w2 ⟨g1, rfl, hg1, hb1, hbb⟩
      have HG1 := Lib.hid hb1
      have HXR2 := Lib.hid (HXR.out.keep hbb)
      have HB2 := Lib.hid (HBW.out.trans (hbb.mono HBW.out.size))
      clear hb1 hbb hg1
      go_wp2_with fail
      refine (HPL.out g1 n (dctF s X) w2 (HC.out.below HB2.out) (block_facts HG1.out).2.2 (fun i hi => ag_cell HG1.out i (by omega)) (fun i => by rw [dctF_V]; unfold clamp32; omega)).mono ?_
      rintro e w3 ⟨g2, rfl, hg2, hb2, hbb⟩
      have HG2 := Lib.hid hb2
      have HXR3 := Lib.hid (HXR2.out.keep hbb)
      have HB3 := Lib.hid (HB2.out.trans (hbb.mono HB2.out.size))
      clear hb2 hbb hg2
      have hnn : ((n : Int) != (n : Int)) = false := by simp
      have hG0 := gTo_nonneg X n
      have hG1 := gTo_le X 262144 (by decide) n HOK.out
      have hG2 := fun i hi => HTW.out (gTo X n) hG0 hG1 X (fun j hj => gTo_ge X n j hj) i hi
      obtain ⟨G, hG⟩ : ∃ G, gTo X n = G := ⟨_, rfl⟩
      rw [hG] at hG0 hG1 hG2 ⊢
      have HG := Lib.hid hG2
      clear hG hG2
      go_wp2_with fail
      go_loopw [48] (fun cnt wq => ∃ i : Nat, i ≤ n ∧ cnt = .int .i64 i ∧ Below w3.heap.size w3 wq) (fun cnt _ => n - (intOf cnt).toNat)
      case atStart => exact ⟨0, by omega, rfl, Below.refl _ _⟩
      case round =>
        obtain ⟨i, hi, rfl, hbq⟩ := hrel
        by_cases hin : i < n
        · have hin' : (i : Int) < n := by omega
          have hi0 : (0 : Int) ≤ i := by omega
          have bx := HXR3.out.keep hbq
          have by' := HG2.out.keep hbq
          have cx := ag_cell bx i (by omega)
          have cy := ag_cell by' i hin
          simp only [k32] at cx cy
          have lx := (block_facts bx).2.2
          have ly := (block_facts by').2.2
          have hd := HG.out i hin
          have kx := HX.out i
          have ky : -2147483648 ≤ dctF s (dctF s X) i ∧ dctF s (dctF s X) i ≤ 2147483647 := by rw [dctF_V]; unfold clamp32; omega
          generalize dctF s (dctF s X) i = y at *
          generalize X i = xv at *
          have hdiv : (n : Int) / 2 = (h : Int) := by have := HNH.out; omega
          have hh16 : (0 : Int) ≤ h ∧ (h : Int) ≤ 16 := by have := HNH.out; omega
          have hprod := prod_le (a := 16) (b := 2147483648) (x := (h : Int)) (y := xv) (by omega) (by omega)
          have e1 : wrap64 xv = xv := w64_id (by omega) (by omega)
          have e2 : wrap64 y = y := w64_id (by omega) (by omega)
          have e3 : wrap64 ((h : Int) * xv) = h * xv := w64_id (by omega) (by omega)
          have e4 : wrap64 (y - h * xv) = y - h * xv := w64_id (by omega) (by omega)
          have HBQ := Lib.hid hbq
          have HD := Lib.hid hd
          have HHP := Lib.hid hprod
          have HDI := Lib.hid hdiv
          have E3 := Lib.hid e3
          have E4 := Lib.hid e4
          clear e3 e4
          have HKY := Lib.hid ky
          clear bx by' hbq hd kx ky hprod hdiv hh16
          go_wp2_with fail
          first | refine wp_region_grew_all2 (by kernel_rfl) (by kernel_rfl) ?_ | refine wp_region_grew_all (by kernel_rfl) (by kernel_rfl) ?_
          repeat (go_big_quiet_step (fail))
          refine wpQuiet_nil ?_
          rintro _ ⟨x, rfl⟩
          rw [HDI.out, E3.out, E4.out]
          have hd := HD.out
          obtain ⟨o, ho⟩ : ∃ o, y - h * xv = o := ⟨_, rfl⟩
          rw [ho] at hd ⊢
          have hq : 0 ≤ G / 100 ∧ G / 100 ≤ 2622 := by omega
          have hnq := prod_le (a := 32) (b := 2626) (x := (n : Int)) (y := G / 100 + 4) (by omega) (by omega)
          have e5 : wrap64 (-o) = -o := w64_id (by omega) (by omega)
          have e6 : wrap64 (G / 100) = G / 100 := w64_id (by omega) (by omega)
          have e7 : wrap64 (G / 100 + 4) = G / 100 + 4 := w64_id (by omega) (by omega)
          have e8 : wrap64 ((n : Int) * (G / 100 + 4)) = (n : Int) * (G / 100 + 4) := w64_id (by omega) (by omega)
          have tt : decide ((n : Int) * (G / 100 + 4) < max o (-o)) = false := decide_eq_false (by omega)
          clear ho hd hq hnq e1 e2
          go_wp2_with fail
          exact ⟨⟨i + 1, by omega, by go_num, below_grew HBQ.out HBQ.out.size _⟩, by simp only [intOf]; omega⟩
        · have hin' : ¬ (i : Int) < n := by omega
          have HBQ := Lib.hid (HB3.out.trans (hbq.mono HB3.out.size))
          clear hbq
          go_wp2_with fail
          go_ret
          exact ⟨rfl, HBQ.out⟩
end Go.Proofs.YtcibajleknhklaaDoor
end

section
namespace Go
open Go.RowKit Go.ChangeShapes Go.WideShapes
/-- All arguments read again. -/
theorem trodAll_below {H : Type} {enc : TypeId × Value → H} {P : Program} (hl : laidOutB P = true) {W W' : World} (hb : Below W.heap.size W W') :
    ∀ (ts : List TypeId) (vs : List Value) (ds : List (DataW H)) (ps : List MemPlace), (ts.all fun t => P.readableRec t && decide (t < P.types.size)) = true →
      DataW.TrodAll enc P W 0 (fun _ => true) true ts vs ds ps → (∀ x ∈ ps, x.block < W.heap.size) → DataW.TrodAll enc P W' 0 (fun b => decide (b < W.heap.size)) true ts vs ds ps
  | [], vs, ds, ps, _, h, _ => by
    obtain ⟨rfl, rfl, rfl⟩ := trodAll_nil h
    exact trodAll_mk0
  | t :: ts, vs, ds, ps, hr, h, hlt => by
    simp only [List.all_cons, Bool.and_eq_true, decide_eq_true_eq] at hr
    obtain ⟨v, vs', d, ds', p, q, rfl, rfl, rfl, h1, h2⟩ := trodAll_cons h
    exact trodAll_cons_mk (Below.trod hl hr.1.1 hr.1.2 h1 hb (fun x hx => hlt x (List.mem_append_left _ hx))) (trodAll_below hl hb ts vs' ds' q hr.2 h2 (fun x hx => hlt x (List.mem_append_right _ hx)))
end Go
end

section
namespace Go.Proofs.YtcibajleknhklaaDoor
open Go.RowKit
theorem cosines_of {W : World} {rest : List (String × DataW Unit)} (h : laidMet Tryd.prog (("spinet/cis.cosines", Rows.laid_spinet_cis_cosines) :: rest) W) : CosW W := by
  have hT := Lib.tabIs_of_head (P := Tryd.prog) (g := 0) (t := 207) (e := 2) (n := 65) (k := .i64) (zs := cosL) (by kernel_rfl) (by kernel_rfl) Tryd.underlying207 Tryd.underlying2 (by kernel_rfl) (by kernel_rfl) h
  have hc := fun i hi => hT.cell (g := 0) (by kernel_rfl) i hi
  exact ⟨World.block_lt_of_cell? W ⟨0, 0, none⟩ (hc 0 (by decide)), hc⟩
end Go.Proofs.YtcibajleknhklaaDoor
end

section
namespace Go.Proofs.YtcibajleknhklaaDoor
open Go.ChangeShapes Go.WideShapes Go.ChangeAt Go.WideMaps Go.WideElems Go.RowKit
set_option maxRecDepth 100000 in
theorem dctTwice_lifted (os : Os) (started : os.Started) (H : Type) (enc : TypeId × Value → H) :
    ReturnsInHanded {} Tryd.checked os 5 .any (fun w args => (Rows.dctTwiceSpec.pre enc Tryd.prog Tryd.f5 [] false w args ∧ laidMetH Tryd.prog Rows.dctTwiceRow.laid w) ∧ sizedMet enc Tryd.prog Tryd.f5 (OpenSpec.ofChange Rows.dctTwiceSpec) false w args)
      (Rows.dctTwiceSpec.post enc Tryd.prog Tryd.f5 false true false false) := by
  refine returnsInHanded_of_change_and (C := Tryd.checked) (X := fun w _ => laidMetH Tryd.prog Rows.dctTwiceRow.laid w) (fun _ _ _ hh h => h.of_heap hh) (by kernel_rfl) started (by kernel_rfl) Tryd.func5
    (ChangeSpec.witness_shaped (enc := enc) (C := Tryd.checked) (os := os) (X := fun w _ => laidMetH Tryd.prog Rows.dctTwiceRow.laid w) false (World.doorLaid Tryd.prog 400 os) #[.int .u8 0, .agg (ag k32 32 fun _ => 0)] 8 rfl (World.shaped_of_RefB (by kernel_rfl) (by kernel_rfl)) (by kernel_rfl) (by kernel_rfl) (by kernel_rfl)
      (laidMetH_of_parts3 (fuel := 8) (laidMet_of_run' 8 (by kernel_rfl) (by kernel_rfl)) (by kernel_rfl) (by kernel_rfl))) ?_
  intro W base args ds gs before hval0 hW _ _ hL _
  have hval : ∀ (j : Nat) t v, Tryd.f5.params[j]? = some t → args[j]? = some v → Value.okWide Tryd.prog W .any base t v := hval0
  have hW' := hW
  obtain ⟨p, q, hA0, hV, rfl, hfz, hnd⟩ := hW
  have hA : DataW.TrodAll enc Tryd.prog W 0 (fun _ => true) true Tryd.f5.params.toList args.toList ds p := hA0
  have hA2 := hA
  rw [Tryd.params5] at hA hval
  obtain ⟨v0, v1, d0, d1, p0, p1, rfl, rfl, hp, h0, h1⟩ := trodAll_two hA
  obtain ⟨rfl, rfl⟩ := trodVars_none hV
  obtain ⟨a, rfl, rfl, hp0, wa⟩ := open_int Tryd.underlying5 (hval 0 5 v0 rfl rfl) h0
  obtain ⟨cs1, hcv1, hfit1⟩ := open_flat 4 ((List.range 32).map fun i => Leaf.int (k32 i)) (by kernel_rfl) (by kernel_rfl) (hval 1 42 v1 rfl rfl) h1
  obtain ⟨st1, hcs1, hst1⟩ := ag_of_fit k32 32 cs1 hfit1
  rw [hcs1, ag_ext k32 32 st1 (fun i => if i < 32 then st1 i else 0) (fun i hi => (if_pos hi).symm)] at hcv1
  subst hcv1
  have hb1 : ∀ i, -2147483648 ≤ (fun i => if i < 32 then st1 i else 0) i ∧ (fun i => if i < 32 then st1 i else 0) i ≤ 2147483647 := fun i => by
    show -2147483648 ≤ (if i < 32 then st1 i else 0) ∧ (if i < 32 then st1 i else 0) ≤ 2147483647
    by_cases h : i < 32
    · rw [if_pos h]; exact wf_i32 (hst1 i h)
    · rw [if_neg h]; decide
  rw [MakeChecks.laidMetH_plain _ _ _ (by kernel_rfl)] at hL
  have hT : CosW W := cosines_of hL
  simp only [List.append_nil] at hW'
  refine (dctTwice_any a (wf_u8 wa) _ hb1 W hT).mono fun e W' ⟨he, hb⟩ => ?_
  subst he
  have e1 : Rows.dctTwiceSpec.fn H ([.lit (.int .u8 a), d1] ++ []) = { results := [.lit (.bool true)], args := [.lit (.int .u8 a), d1] } := by simp [Rows.dctTwiceSpec]
  refine ⟨_, rfl, _, _, _, [], p, [], hW', ?_, ?_, ?_, hb.frame _, fun h => by cases h⟩
  · rw [e1]; exact trodAll_mk1 (shut_bool Tryd.underlying4 _)
  · rw [e1]; exact trodAll_below (by kernel_rfl) hb _ _ _ _ (by kernel_rfl) hA2 (fun x hx => by simpa using hW'.lt x (by simpa using hx))
  · rw [e1]; rfl
theorem dctTwice_holds : Rows.DctTwiceSaid :=
  OpenClaim.holds_of_wide 5 Tryd.f5 rfl rfl rfl rfl rfl rfl rfl ⟨rfl, rfl, rfl, rfl, rfl⟩ rfl rfl rfl rfl rfl (by kernel_rfl) Tryd.func5 (by kernel_rfl)
    (of_decide_eq_true (by kernel_rfl)) (by unfold Func.isWrapper; rw [if_neg (of_decide_eq_false (by kernel_rfl))]; exact ⟨rfl, rfl⟩)
    (fun os started H enc _ => dctTwice_lifted os started H enc)
theorem dctTwice_card : Rows.DctTwiceCardSaid :=
  Claim7.holds_tied_plain_at .later [] [.data] true (true, "ae348317897b4f8711de699b2180ffb779772e4703cfa942f657876935132cc0") false
    dctTwice_holds (fun _ h => by cases h) (by kernel_rfl) (fun _ h => by cases h) dctTwice_row_tie rfl ⟨rfl, rfl⟩ (by kernel_rfl) rfl
    (fun f fn hf hfn => by
      obtain rfl : f = 5 := Option.some.inj ((show Tryd.prog.funcNamed "spinet/spinetlaw22.DctTwice" = some 5 by kernel_rfl).symm.trans hf) |>.symm
      obtain rfl : fn = Tryd.f5 := (Option.some.inj (Tryd.func5.symm.trans hfn)).symm
      exact ⟨by kernel_rfl, fun j t ht => by
        rw [Tryd.params5] at ht
        have hm : t ∈ [5, 42] := by simpa using Array.mem_of_getElem? ht
        have hall : ([5, 42].all fun u => !Tryd.prog.wantsStandIn u) = true := by kernel_rfl
        exact (show Tryd.prog.wantsStandIn t = false by simpa using List.all_eq_true.1 hall t (by simpa using hm))⟩)
    (by kernel_rfl)
end Go.Proofs.YtcibajleknhklaaDoor
end

