/-
  spinetlaw22.awake and DctAdds, walked.
  (One text out of these parts: Kit, Eq, Rgn, RgnI, Flat, Wf, Base, Wide, Cis, Wide2, CisW, CisD, Shr, FftP, Fft, FftJ, FftO, App, FftN, FftF, FftL, Dct, DctW, DctP, DctA.)
-/
import Derived.Deep.Quiet
import Derived.StillTail
import Derived.BigQuiet
import Derived.Below
import Derived.WalkKit
import Derived.WalkLawsBesides
import Derived.Lib.Hide
import Derived.Carry
import Derived.IntWalk
import Derived.Maps.AppendAt
import Derived.OwnWalk
import Derived.KernelRfl
import Derived.Laws.StructEq
import Derived.OpenShut
import Derived.Deep.MidRow
import Derived.Laws.CopyOwn
import Derived.Laws.Tables
import Derived.Laws.ResultCell
import Derived.Laws.Rows
import Derived.Lib.SliceRun
import Derived.Test.YtcibajleknhklaaDoorWWords
import Derived.Test.YtcibajleknhklaaDoorWLast
import Derived.Test.YtcibajleknhklaaDoorWMore
import Derived.Test.YtcibajleknhklaaDoorProg
import Derived.Laws.Externs
import Derived.Outline
import Derived.Shelf.Spec.BitsCarry
import Derived.Test.YtcibajleknhklaaDoorShelf
import Derived.LoopTactic
import Derived.Test.YtcibajleknhklaaDoorPFftOrdersx0
section
namespace Go
open Go.RowKit
/-- Blocks more, and another count of draws. -/
structure Grown.By where
  objs : Array Obj
  drawn : Nat
instance : Inhabited Grown.By := ⟨⟨#[], 0⟩⟩
/-- 'w' with blocks more, and another count of draws. -/
def World.grew (w : World) (x : Grown.By) : World := { w with heap := w.heap ++ x.objs, drawn := x.drawn }
section
variable (w : World) (x y : Grown.By)
theorem World.grew_block (k : Nat) (h : k < w.heap.size) : (w.grew x).heap[k]? = w.heap[k]? := by
  show (w.heap ++ x.objs)[k]? = _
  rw [Array.getElem?_append_left h]
@[simp, go_sem] theorem World.size_grew : (w.grew x).heap.size = w.heap.size + x.objs.size := by
  show (w.heap ++ x.objs).size = _
  simp
@[go_sem] theorem World.grew_grew : (w.grew x).grew y = w.grew ⟨x.objs ++ y.objs, y.drawn⟩ := by
  unfold World.grew
  simp [Array.append_assoc]
@[go_sem] theorem World.drew_grew : (w.grew x).drew = w.grew ⟨x.objs, x.drawn + 1⟩ := rfl
@[go_sem] theorem World.grew_drew : w.drew.grew x = w.grew x := rfl
@[go_sem] theorem World.grew_drewN (n : Nat) : (w.drewN n).grew x = w.grew x := rfl
@[go_sem] theorem World.drewN_grew (n : Nat) : (w.grew x).drewN n = w.grew ⟨x.objs, x.drawn + n⟩ := rfl
@[go_sem] theorem World.cell?_grew (n i : Nat) (s : Option Nat) (hn : n < w.heap.size) : (w.grew x).cell? ⟨n, i, s⟩ = w.cell? ⟨n, i, s⟩ := by
  unfold World.cell?
  rw [World.grew_block w x n hn]
@[go_sem] theorem World.frozen?_grew (n i : Nat) (s : Option Nat) (hn : n < w.heap.size) : (w.grew x).frozen? ⟨n, i, s⟩ = w.frozen? ⟨n, i, s⟩ := by
  unfold World.frozen?
  rw [World.grew_block w x n hn]
@[go_sem] theorem World.shape?_grew (n : Nat) (hn : n < w.heap.size) : (w.grew x).shape? n = w.shape? n := by
  unfold World.shape?
  rw [World.grew_block w x n hn]
@[go_sem] theorem World.setCell_grew (n i : Nat) (s : Option Nat) (v : Value) (hn : n < w.heap.size) : (w.grew x).setCell ⟨n, i, s⟩ v = (w.setCell ⟨n, i, s⟩ v).grew x := by
  unfold World.setCell World.grew
  congr 1
  apply Array.ext_getElem?
  intro k
  simp only [Array.getElem?_modify, Array.getElem?_append, Array.size_modify]
  by_cases hk : k < w.heap.size
  · simp [hk]
  · simp [hk]
    intro h; omega
@[go_sem] theorem World.heap_grew (k : Nat) (hk : k < w.heap.size) : (w.grew x).heap[k]? = w.heap[k]? := World.grew_block w x k hk
@[simp] theorem World.os_grew : (w.grew x).os = w.os := rfl
@[simp] theorem World.tape_grew : (w.grew x).tape = w.tape := rfl
end
@[go_sem] theorem lt_add_of_lt1 (a b c0 : Nat) (h : a < b) : (a < b + c0) = True := eq_true (by omega)
@[go_sem] theorem le_add_of_lt1 (a b c0 : Nat) (h : a < b) : (a ≤ b + c0) = True := eq_true (by omega)
@[go_sem] theorem ne_add_of_lt1 (a b c0 : Nat) (h : a < b) : (a = b + c0) = False := eq_false (by omega)
@[go_sem] theorem lt_add_of_lt2 (a b c0 c1 : Nat) (h : a < b) : (a < b + c0 + c1) = True := eq_true (by omega)
@[go_sem] theorem le_add_of_lt2 (a b c0 c1 : Nat) (h : a < b) : (a ≤ b + c0 + c1) = True := eq_true (by omega)
@[go_sem] theorem ne_add_of_lt2 (a b c0 c1 : Nat) (h : a < b) : (a = b + c0 + c1) = False := eq_false (by omega)
@[go_sem] theorem lt_add_of_lt3 (a b c0 c1 c2 : Nat) (h : a < b) : (a < b + c0 + c1 + c2) = True := eq_true (by omega)
@[go_sem] theorem le_add_of_lt3 (a b c0 c1 c2 : Nat) (h : a < b) : (a ≤ b + c0 + c1 + c2) = True := eq_true (by omega)
@[go_sem] theorem ne_add_of_lt3 (a b c0 c1 c2 : Nat) (h : a < b) : (a = b + c0 + c1 + c2) = False := eq_false (by omega)
@[go_sem] theorem lt_add_of_lt4 (a b c0 c1 c2 c3 : Nat) (h : a < b) : (a < b + c0 + c1 + c2 + c3) = True := eq_true (by omega)
@[go_sem] theorem le_add_of_lt4 (a b c0 c1 c2 c3 : Nat) (h : a < b) : (a ≤ b + c0 + c1 + c2 + c3) = True := eq_true (by omega)
@[go_sem] theorem ne_add_of_lt4 (a b c0 c1 c2 c3 : Nat) (h : a < b) : (a = b + c0 + c1 + c2 + c3) = False := eq_false (by omega)
@[go_sem] theorem lt_add_of_lt5 (a b c0 c1 c2 c3 c4 : Nat) (h : a < b) : (a < b + c0 + c1 + c2 + c3 + c4) = True := eq_true (by omega)
@[go_sem] theorem le_add_of_lt5 (a b c0 c1 c2 c3 c4 : Nat) (h : a < b) : (a ≤ b + c0 + c1 + c2 + c3 + c4) = True := eq_true (by omega)
@[go_sem] theorem ne_add_of_lt5 (a b c0 c1 c2 c3 c4 : Nat) (h : a < b) : (a = b + c0 + c1 + c2 + c3 + c4) = False := eq_false (by omega)
@[go_sem] theorem le_self2 (a c0 c1 : Nat) : (a ≤ a + c0 + c1) = True := eq_true (by omega)
@[go_sem] theorem le_self3 (a c0 c1 c2 : Nat) : (a ≤ a + c0 + c1 + c2) = True := eq_true (by omega)
@[go_sem] theorem le_self4 (a c0 c1 c2 c3 : Nat) : (a ≤ a + c0 + c1 + c2 + c3) = True := eq_true (by omega)
@[go_sem] theorem le_self5 (a c0 c1 c2 c3 c4 : Nat) : (a ≤ a + c0 + c1 + c2 + c3 + c4) = True := eq_true (by omega)
@[go_sem] theorem le_self6 (a c0 c1 c2 c3 c4 c5 : Nat) : (a ≤ a + c0 + c1 + c2 + c3 + c4 + c5) = True := eq_true (by omega)
@[go_sem] theorem lt_self1 (a c0 : Nat) : (a < a + 1 + c0) = True := eq_true (by omega)
@[go_sem] theorem ne_self1 (a c0 : Nat) : (a = a + 1 + c0) = False := eq_false (by omega)
@[go_sem] theorem lt_self2 (a c0 c1 : Nat) : (a < a + 1 + c0 + c1) = True := eq_true (by omega)
@[go_sem] theorem ne_self2 (a c0 c1 : Nat) : (a = a + 1 + c0 + c1) = False := eq_false (by omega)
@[go_sem] theorem lt_self3 (a c0 c1 c2 : Nat) : (a < a + 1 + c0 + c1 + c2) = True := eq_true (by omega)
@[go_sem] theorem ne_self3 (a c0 c1 c2 : Nat) : (a = a + 1 + c0 + c1 + c2) = False := eq_false (by omega)
@[go_sem] theorem lt_self4 (a c0 c1 c2 c3 : Nat) : (a < a + 1 + c0 + c1 + c2 + c3) = True := eq_true (by omega)
@[go_sem] theorem ne_self4 (a c0 c1 c2 c3 : Nat) : (a = a + 1 + c0 + c1 + c2 + c3) = False := eq_false (by omega)
@[go_sem] theorem lt_self5 (a c0 c1 c2 c3 c4 : Nat) : (a < a + 1 + c0 + c1 + c2 + c3 + c4) = True := eq_true (by omega)
@[go_sem] theorem ne_self5 (a c0 c1 c2 c3 c4 : Nat) : (a = a + 1 + c0 + c1 + c2 + c3 + c4) = False := eq_false (by omega)
theorem World.grew_none (w : World) : w.grew ⟨#[], w.drawn⟩ = w := by unfold World.grew; simp
theorem World.as_grew (w : World) : ∃ x, w = w.grew x := ⟨_, (World.grew_none w).symm⟩
theorem below_grew {B : Nat} {a w : World} (h : Below B a w) (hB : B ≤ w.heap.size) (x : Grown.By) : Below B a (w.grew x) :=
  h.trans ⟨rfl, rfl, rfl, by simp, fun k hk => World.grew_block _ _ _ (by omega)⟩
/-- What lies below the size of 'w' is as it was: so w' is w, grown. -/
theorem below_as_grew {w w' : World} (h : Below w.heap.size w w') : ∃ x : Grown.By, w' = w.grew x := by
  refine ⟨⟨w'.heap.extract w.heap.size w'.heap.size, w'.drawn⟩, ?_⟩
  have hh : w'.heap = w.heap ++ w'.heap.extract w.heap.size w'.heap.size := by
    apply Array.ext_getElem?
    intro k
    rw [Array.getElem?_append]
    by_cases hk : k < w.heap.size
    · rw [if_pos hk, h.block k hk]
    · rw [if_neg hk, Array.getElem?_extract]
      by_cases h2 : k < w'.heap.size
      · rw [if_pos (by omega)]
        congr 1; omega
      · rw [if_neg (by omega)]
        simp; omega
  obtain ⟨hp, tp, dr, os, out⟩ := w'
  obtain ⟨a1, a2, a3, a4, a5⟩ := h
  simp only at *
  subst a1 a2 a3
  unfold World.grew
  simp only
  congr 1
section
variable {P : Program} {ops : Array Oper} {md : Region.Mode} {C : World → Prop}
def headQ (P : Program) (md : Region.Mode) (ops : Array Oper) (C : World → Prop) (n : Nat) (L : Array Bool → Act → Prop) : Nat → Array Bool → Act → Prop
  | 0, listed, a => L listed a
  | f + 1, listed, a =>
    Region.ready md ops listed ≠ [] ∧ ∀ i ∈ Region.ready md ops listed, i < n ∧ qOp P ops C i (headQ P md ops C n L f (listed.setIfInBounds i true)) a
theorem wpAny_of_headQ {n g : Nat} {L : Array Bool → Act → Prop} {Q' : Exit → Act → World → Prop} (hL : ∀ listed a w, C w → L listed a → wpAny P md ops Q' g listed a w) :
    ∀ (f : Nat) (listed : Array Bool) (a : Act) (w : World), C w → headQ P md ops C n L f listed a → wpAny P md ops Q' (f + g) listed a w
  | 0, listed, a, w, hw, h => by rw [Nat.zero_add]; exact hL _ _ _ hw h
  | f + 1, listed, a, w, hw, h => by
    rw [show f + 1 + g = (f + g) + 1 by omega]
    exact ⟨fun h0 => absurd h0 h.1, fun i hi => wpOp_of_qOp hw (fun a' w' hw' h' => wpAny_of_headQ hL f _ a' w' hw' h') (h.2 i hi).2⟩
theorem headQ_first {n i : Nat} {oi : Oper} {v : Value} {L : Array Bool → Act → Prop} (hi : ops[i]? = some oi) (hsel : ∀ (j : Nat) (o : Oper) cs b, ops[j]? = some o → o.op ≠ .select cs b)
    (hs : Region.sinkB md ops n = true) (hc : Region.chainB md ops n = true) (hn : n < ops.size) (hin : i < n)
    (hdone : ∀ listed a, L listed a → ∀ j ∈ Region.ready md ops listed, n ≤ j) :
    ∀ (f : Nat) (listed : Array Bool) (a : Act), HeadInv md ops n listed →
      (∀ j oj, ops[j]? = some oj → j ≠ i → listed.getD j true = false → (∀ e ∈ oj.after, Region.binds md e = true → e.on ≠ i) → oi.apart ops oj = true) →
      i ∈ Region.ready md ops listed → YieldsIn P ops C oi v a →
      headQ P md ops C n L f (listed.setIfInBounds i true) (a.put oi.dst v) → headQ P md ops C n L (f + 1) listed a := by
  intro f
  induction f with
  | zero =>
    intro listed a inv _ hr hy H
    have hun := (mem_ready.1 hr).1
    refine ⟨fun h => (by rw [h] at hr; cases hr), fun j hj => ?_⟩
    have hjn : j < n := by
      rcases Nat.lt_or_ge j n with h | h
      · exact h
      · exact absurd hj (tail_waits hs hc hn inv _ i rfl hin hun j h)
    refine ⟨hjn, ?_⟩
    by_cases hji : j = i
    · subst hji; exact hy.qOp hi H
    · have := hdone _ _ H j (ready_mono hj hji)
      omega
  | succ f ih =>
    intro listed a inv hfree hr hy H
    have hun := (mem_ready.1 hr).1
    refine ⟨fun h => (by rw [h] at hr; cases hr), fun j hj => ?_⟩
    have hjn : j < n := by
      rcases Nat.lt_or_ge j n with h | h
      · exact h
      · exact absurd hj (tail_waits hs hc hn inv _ i rfl hin hun j h)
    refine ⟨hjn, ?_⟩
    by_cases hji : j = i
    · subst hji; exact hy.qOp hi H
    · have h1 := (H.2 j (ready_mono hj hji)).2
      obtain ⟨hjun, oj, hoj, hall⟩ := mem_ready.1 hj
      have hnot : ∀ e ∈ oj.after, Region.binds md e = true → e.on ≠ i := fun e he hb heq => by
        have h1 := hall e he hb
        rw [heq, getD_both hun] at h1
        cases h1
      have h2 := qOp_put hoj (hfree j oj hoj hji hjun hnot) (fun cs b => hsel i oi cs b hi) (fun cs b => hsel j oj cs b hoj) hy h1
      have hfree' : ∀ k ok, ops[k]? = some ok → k ≠ i → (listed.setIfInBounds j true).getD k true = false →
          (∀ e ∈ ok.after, Region.binds md e = true → e.on ≠ i) → oi.apart ops ok = true := fun k ok hk hki hun hno => by
        refine hfree k ok hk hki ?_ hno
        by_cases hjk : j = k
        · subst hjk; exact hjun
        · rw [getD_set_ne true hjk] at hun; exact hun
      refine qOp_mono (fun a' h3 => ih (listed.setIfInBounds j true) a' (inv.set hj hjn) hfree' (ready_mono hr (Ne.symm hji)) h3.1 ?_) h2
      rw [Array.setIfInBounds_comm _ _ hji]
      exact h3.2
theorem headQ_lex {n g : Nat} {Lq : Act → Prop} (hsel : Region.noSelect ops = true) (hs : Region.sinkB md ops n = true) (hc : Region.chainB md ops n = true) (hn : n < ops.size) :
    ∀ (l : List Oper) (k : Nat) (listed : Array Bool) (a : Act), (∀ j, j < l.length → l[j]? = ops[k + j]?) → k + l.length = n → HeadInv md ops n listed →
    Region.lexHead md ops g l.length k listed = true → wpQuiet P ops C Lq l a →
    headQ P md ops C n (fun listed' a' => Region.seqB md ops g n listed' = true ∧ Lq a') l.length listed a
  | [], k, listed, a, _, hk, _, hB, h => by
    have : k = n := by simpa using hk
    subst this
    exact ⟨by simpa [Region.lexHead] using hB, h⟩
  | o :: l, k, listed, a, hl, hk, inv, hB, h => by
    have h0 : ops[k]? = some o := by simpa using (hl 0 (by simp)).symm
    simp only [List.length_cons, Region.lexHead, Bool.and_eq_true] at hB
    obtain ⟨⟨hr, hf⟩, hB'⟩ := hB
    have hkn : k < n := by simp only [List.length_cons] at hk; omega
    have hr' : k ∈ Region.ready md ops listed := by simpa using hr
    have hst : qOp P ops C k (wpQuiet P ops C Lq l) a := by unfold qOp; simp only [h0]; exact h
    obtain ⟨v, hy, hK⟩ := yieldsIn_of_qOp h0 hst
    exact headQ_first h0 (Region.noSelect_spec hsel) hs hc hn hkn (fun listed' a' hL => seqB_ready hL.1) l.length listed a inv (Region.free_spec h0 hf) hr' hy
      (headQ_lex hsel hs hc hn l (k + 1) _ _ (fun j hj => by have := hl (j + 1) (by simp; omega); simpa [Nat.add_assoc, Nat.add_comm 1 j] using this) (by simp only [List.length_cons] at hk; omega) (inv.set hr' hkn) hB' hK)
theorem wp_region_headQ {id : Nat} {Q : Exit → Act → World → Prop} {a : Act} {w : World} {l : List Oper} (n : Nat) (hm : P.follows .mixedOrders = true) (hB : Region.lexTailB .any l.toArray n = true)
    (hC : C { w with drawn := w.drawn + 1 })
    (h : wpQuiet P l.toArray C (fun a' => ∀ w', C w' → wpList P l.toArray Q (l.drop n) a' w') (l.take n) a) : (Code.region id l.toArray true).wp P Q a w := by
  simp only [Region.lexTailB, Bool.and_eq_true, decide_eq_true_eq] at hB
  obtain ⟨⟨⟨⟨hsel, hn⟩, hs⟩, hc⟩, hlex⟩ := hB
  have hn' : n < l.length := by simpa using hn
  have htl : (l.take n).length = n := by simp; omega
  have hdl : (l.drop n).length = l.toArray.size - n := by simp
  have inv0 : HeadInv .any l.toArray n (Array.replicate l.toArray.size false) :=
    ⟨by simp, fun j oj _ hl => (by rw [getD_replicate_false] at hl; cases hl), fun t _ ht => getD_in (by simpa using ht) (getD_replicate_false _ _)⟩
  have hhead := headQ_lex (P := P) (C := C) (md := .any) (ops := l.toArray) (n := n) (g := l.toArray.size - n) hsel hs hc hn (l.take n) 0 (Array.replicate l.toArray.size false) a
    (fun j hj => by rw [htl] at hj; simp [hj]) (by simpa using htl) inv0 (by rw [htl]; exact hlex) h
  rw [htl] at hhead
  refine wp_region_any hm ?_
  have := wpAny_of_headQ (P := P) (C := C) (md := .any) (ops := l.toArray) (Q' := Q) (g := l.toArray.size - n)
    (fun listed a' w' hw' hL => by
      have hq := wpAny_of_seq (P := P) (md := .any) (ops := l.toArray) (Q' := Q) (l.drop n) n listed a' w' (fun j => by simp [List.getElem?_drop]) (by rw [hdl]; exact hL.1) (hL.2 w' hw')
      rwa [hdl] at hq) n _ a _ hC hhead
  have e : n + (l.toArray.size - n) = l.toArray.size := by omega
  rwa [e] at this
/-- The class: the world at hand, grown. -/
theorem wp_region_grew {id : Nat} {Q : Exit → Act → World → Prop} {a : Act} {w : World} {l : List Oper} (n : Nat) (hm : P.follows .mixedOrders = true) (hB : Region.lexTailB .any l.toArray n = true)
    (h : wpQuiet P l.toArray (fun w' => ∃ x, w' = w.grew x) (fun a' => ∀ w', (∃ x, w' = w.grew x) → wpList P l.toArray Q (l.drop n) a' w') (l.take n) a) : (Code.region id l.toArray true).wp P Q a w :=
  wp_region_headQ n hm hB ⟨⟨#[], w.drawn + 1⟩, by unfold World.grew; simp⟩ h
/-- A region all of whose operations are quiet. -/
theorem wp_region_grew_all {id : Nat} {Q : Exit → Act → World → Prop} {a : Act} {w : World} {l : List Oper} (hm : P.follows .mixedOrders = true) (hB : Region.lexB .any l.toArray = true)
    (h : wpQuiet P l.toArray (fun w' => ∃ x, w' = w.grew x) (fun a' => ∀ w', (∃ x, w' = w.grew x) → Q .normal a' w') l a) : (Code.region id l.toArray true).wp P Q a w :=
  wp_region_quiet (C := fun w' => ∃ x, w' = w.grew x) hm hB ⟨⟨#[], w.drawn + 1⟩, by unfold World.grew; simp⟩ (by simpa using h)
theorem wp_region_grew2 {id : Nat} {Q : Exit → Act → World → Prop} {a : Act} {w : World} {x0 : Grown.By} {l : List Oper} (n : Nat) (hm : P.follows .mixedOrders = true) (hB : Region.lexTailB .any l.toArray n = true)
    (h : wpQuiet P l.toArray (fun w' => ∃ x, w' = w.grew x) (fun a' => ∀ w', (∃ x, w' = w.grew x) → wpList P l.toArray Q (l.drop n) a' w') (l.take n) a) : (Code.region id l.toArray true).wp P Q a (w.grew x0) :=
  wp_region_headQ n hm hB ⟨⟨x0.objs, x0.drawn + 1⟩, rfl⟩ h
theorem wp_region_grew_all2 {id : Nat} {Q : Exit → Act → World → Prop} {a : Act} {w : World} {x0 : Grown.By} {l : List Oper} (hm : P.follows .mixedOrders = true) (hB : Region.lexB .any l.toArray = true)
    (h : wpQuiet P l.toArray (fun w' => ∃ x, w' = w.grew x) (fun a' => ∀ w', (∃ x, w' = w.grew x) → Q .normal a' w') l a) : (Code.region id l.toArray true).wp P Q a (w.grew x0) :=
  wp_region_quiet (C := fun w' => ∃ x, w' = w.grew x) hm hB ⟨⟨x0.objs, x0.drawn + 1⟩, rfl⟩ (by simpa using h)
/-- A contract that makes memory, met in a grown world. -/
theorem Calls.grew_of {f : FuncId} {args : Array Value} {w : World} {x : Grown.By} {v : Value}
    (h : Calls P f args (w.grew x) fun e w' => e = .returned v ∧ Below (w.grew x).heap.size (w.grew x) w') : Calls P f args (w.grew x) fun e w'' => e = .returned v ∧ ∃ y, w'' = w.grew y :=
  h.mono fun _ _ ⟨he, hb⟩ => ⟨he, by
    obtain ⟨y, hy⟩ := below_as_grew hb
    exact ⟨_, hy.trans (World.grew_grew w x y)⟩⟩
end
theorem ret_int {k : IntKind} {a b : Int} (h : a = b) : Ending.returned (.int k a) = .returned (.int k b) := by rw [h]
def TabW (g n : Nat) (k : IntKind) (zs : List Int) (w : World) : Prop := g < w.heap.size ∧ ∀ j : Nat, j < n → w.cell? ⟨g, j, none⟩ = some (.int k (zs.getD j 0))
theorem TabW.below {g n : Nat} {k : IntKind} {zs : List Int} {w w' : World} (h : TabW g n k zs w) (hb : Below w.heap.size w w') : TabW g n k zs w' :=
  ⟨Nat.lt_of_lt_of_le h.1 hb.size, fun j hj => (hb.cell (p := ⟨g, j, none⟩) h.1).trans (h.2 j hj)⟩
theorem i64_mask (i : Nat) (hi : i ≤ 62) (x : Int) : bits .and .i64 x (2 ^ i - 1) = x % 2 ^ i := by
  have hpos : 0 < 2 ^ i := Nat.two_pow_pos i
  have hle : 2 ^ i ≤ 2 ^ 62 := Nat.pow_le_pow_right (by decide) hi
  have hc : ((2 : Int) ^ i - 1) = ((2 ^ i - 1 : Nat) : Int) := by
    rw [Int.natCast_sub hpos]; simp
  have hm : (2 ^ i - 1) % 2 ^ 64 = 2 ^ i - 1 := Nat.mod_eq_of_lt (by omega)
  have hd : (2 : Int) ^ i ∣ 2 ^ 64 := by
    obtain ⟨d, hd⟩ : ∃ d, 64 = i + d := ⟨64 - i, by omega⟩
    exact ⟨2 ^ d, by rw [hd, Int.pow_add]⟩
  rw [hc]
  have hb : IntKind.bits .i64 = 64 := rfl
  simp only [bits, hb, BitVec.ofInt_natCast, BitVec.toNat_and, BitVec.toNat_ofNat, BitVec.toNat_ofInt, hm, Nat.and_two_pow_sub_one_eq_mod]
  have h2 : (((x % ((2 ^ 64 : Nat) : Int)).toNat % 2 ^ i : Nat) : Int) = x % 2 ^ i := by
    rw [Int.natCast_emod, Int.toNat_of_nonneg (Int.emod_nonneg _ (by decide))]
    have e1 : ((2 ^ 64 : Nat) : Int) = 2 ^ 64 := by decide
    have e2 : ((2 ^ i : Nat) : Int) = 2 ^ i := by simp
    rw [e1, e2]
    exact Int.emod_emod_of_dvd x hd
  rw [h2]
  have hp : (0 : Int) < 2 ^ i := by exact_mod_cast hpos
  have b0 : 0 ≤ x % 2 ^ i := Int.emod_nonneg _ (Int.ne_of_gt hp)
  have b1 : x % 2 ^ i < 2 ^ i := Int.emod_lt_of_pos _ hp
  have b2 : (2 : Int) ^ i ≤ 2 ^ 62 := by exact_mod_cast hle
  rw [IntKind.wrap_i64]
  have : (2 : Int) ^ 62 = 4611686018427387904 := by decide
  omega
theorem i64_and1 (x : Int) : bits .and .i64 x 1 = x % 2 := i64_mask 1 (by decide) x
theorem i64_and255 (x : Int) : bits .and .i64 x 255 = x % 256 := i64_mask 8 (by decide) x
/-- Behind an append to a row of one's own from 'base' on, all below 'base' is as it was. -/
theorem below_of_grown {base : Nat} {e : TypeId} {size n : Nat} {v : Value} {xs : List Value} {w w' : World} (hown : w.ownsRow base e size v n xs) (hg : w.grownBy w' v.ownBlock) (hbase : base ≤ w.heap.size) : Below base w w' :=
  ⟨hg.os, hg.tape, hg.output, hg.size, fun k hk => hg.block k (by omega) (fun h => by
    have := (hown.lt k h.symm).1
    omega)⟩
theorem ownsRow_below {base : Nat} {e : TypeId} {size n : Nat} {v : Value} {xs : List Value} {w w' : World} (hown : w.ownsRow base e size v n xs) (hb : Below w.heap.size w w') : w'.ownsRow base e size v n xs := by
  obtain ⟨h1, h2⟩ := hown
  refine ⟨h1, ?_⟩
  rcases h2 with h2 | ⟨g, cap, cur, hv, hg, hh, r⟩
  · exact .inl h2
  · exact .inr ⟨g, cap, cur, hv, hg, (hb.block g (Array.getElem?_eq_some_iff.1 hh).1).trans hh, r⟩
/-- 'v = append(v, x)': one element, which lies in the block that was made last. -/
theorem wpList_append_one {P : Program} {ops : Array Oper} {rest : List Oper} {o : Oper} {a : Act} {Q : Exit → Act → World → Prop} {w : World} (hgd : o.guard = none) (s x : Operand) (t : TypeId)
    (ho : o.op = .call { callee := .builtin .append, args := #[s, x], argTypes := #[t, t] })
    (base : Nat) (e : TypeId) (z : Value) (size bytes : Nat) (ht : P.underlying t = some (.slice e)) (hi : (P.info? e).map (fun i => (i.zero, i.size, i.bytes)) = some (some z, size, bytes))
    (hzs : z.cells.size = size) (hsz : 0 < size)
    (v : Value) (n : Nat) (xs : List Value) (hs : a.eval s = v) (hown : w.ownsRow base e size v n xs)
    (g : Nat) (news : List Value) (hx : a.eval x = .slice (some ⟨g, 0, none⟩) 1 1) (hg : g = w.heap.size) (hl : news.length = size) (h1 : ∀ u ∈ news, u.oneCell' = true)
    (h63 : n + 1 ≤ maxLen) (hbytes : (n + 1) * bytes ≤ 140737488355328) (hbase : base ≤ w.heap.size)
    (h : ∀ v' w', w'.ownsRow base e size v' (n + 1) (xs ++ news) → Below base w w' → w.grownBy w' v.ownBlock → (v'.ownBlock = v.ownBlock ∨ v'.ownBlock = some (w.heap.size + 1)) → wpList P ops Q rest (a.put o.dst v') w') :
    wpList P ops Q (o :: rest) a (w.alloc (.cells news.toArray e)) := by
  subst hg
  obtain ⟨i0, hi0, hz0, hz1, hz2⟩ := info_parts hi
  refine wpList_append_own_at (w := w.alloc (.cells news.toArray e)) hgd s x t ho base e i0 z size bytes ht hi0 hz0 hz1 hz2 hzs hsz v n xs hs (hown.alloc _) ⟨w.heap.size, 0, none⟩ 1 1 news hx (by omega) ?_ h1 h63 hbytes (by simp; omega) ?_
  · intro j u hj
    have : (⟨w.heap.size, 0, none⟩ : Addr).add j = ⟨w.heap.size, j, none⟩ := by unfold Addr.add; split <;> simp_all
    rw [this, World.cell?_alloc_new]
    simpa using hj
  · intro v' w' h2 h3 _ h5
    have h6 : w.grownBy w' v.ownBlock := (World.grownBy_alloc w _ _).trans h3
    exact h v' w' h2 (below_of_grown hown h6 hbase) h6 (by simpa using h5)
theorem max2_i (k k' : IntKind) (x y : Int) : Builtin.max2 (.int k x) (.int k' y) = pure (.int k (max x y)) := by
  simp only [Builtin.max2]
  congr 2
  split <;> omega
theorem min2_i (k k' : IntKind) (x y : Int) : Builtin.min2 (.int k x) (.int k' y) = pure (.int k (min x y)) := by
  simp only [Builtin.min2]
  congr 2
  split <;> omega
theorem max_2 (ats : Array TypeId) (ty : TypeId) (a b : Value) : Builtin.max_ ats ty #[a, b] = (Builtin.max2 a b >>= fun s => pure s) := by simp only [Builtin.max_, List.foldlM_cons, List.foldlM_nil]
theorem min_2 (ats : Array TypeId) (ty : TypeId) (a b : Value) : Builtin.min_ ats ty #[a, b] = (Builtin.min2 a b >>= fun s => pure s) := by simp only [Builtin.min_, List.foldlM_cons, List.foldlM_nil]
theorem max_3 (ats : Array TypeId) (ty : TypeId) (a b c : Value) : Builtin.max_ ats ty #[a, b, c] = (Builtin.max2 a b >>= fun s => Builtin.max2 s c >>= fun s => pure s) := by simp only [Builtin.max_, List.foldlM_cons, List.foldlM_nil]
theorem min_3 (ats : Array TypeId) (ty : TypeId) (a b c : Value) : Builtin.min_ ats ty #[a, b, c] = (Builtin.min2 a b >>= fun s => Builtin.min2 s c >>= fun s => pure s) := by simp only [Builtin.min_, List.foldlM_cons, List.foldlM_nil]
attribute [go_sem] max2_i min2_i max_2 min_2 max_3 min_3
/-- Behind a grown world, a new block is more growth. -/
theorem World.alloc_grew (w : World) (x : Grown.By) (o : Obj) : (w.grew x).alloc o = w.grew ⟨x.objs.push o, x.drawn⟩ := by
  unfold World.alloc World.grew
  simp
theorem maxLen_le {n : Nat} (h : n ≤ 4294967295) : n ≤ maxLen := by unfold maxLen; omega
end Go
end

section
namespace Go
set_option linter.unusedSimpArgs false
inductive Leaf where
  | int (k : IntKind)
  | bool
  deriving DecidableEq
/-- The fields' offsets are the sums of what stands ahead; none is blank. -/
def offsOk : List Field → List (List Leaf) → Nat → Bool
  | [], [], _ => true
  | f :: fs, l :: ls, o => f.name != "_" && f.offset == o && offsOk fs ls (o + l.length)
  | _, _, _ => false
/-- The cells of a type of whole numbers and bools. -/
def layout (P : Program) : Nat → TypeId → Option (List Leaf)
  | 0, _ => none
  | d + 1, t =>
    match P.underlying t with
    | some .bool => if (P.info? t).isSome && P.cellsOf t == 1 then some [.bool] else none
    | some (.int k) => if (P.info? t).isSome && P.cellsOf t == 1 then some [.int k] else none
    | some (.array n e) => (layout P d e).bind fun l => if (P.info? t).isSome && P.cellsOf t == (List.replicate n l).flatten.length then some (List.replicate n l).flatten else none
    | some (.struct fs) => (fs.toList.mapM fun f => layout P d f.type).bind fun ls => if (P.info? t).isSome && P.cellsOf t == ls.flatten.length && offsOk fs.toList ls 0 && !P.stoodInHeld t then some ls.flatten else none
    | _ => none
def isAggB (P : Program) (t : TypeId) : Bool := match P.underlying t with | some (.struct _) | some (.array _ _) => true | _ => false
section
variable {P : Program} (w : World)
theorem layout_info {d : Nat} {t : TypeId} {ls : List Leaf} (h : layout P d t = some ls) : ∃ i, P.info? t = some i ∧ i.size = ls.length := by
  cases d with
  | zero => simp [layout] at h
  | succ d =>
    have key : ∀ n : Nat, ((P.info? t).isSome && P.cellsOf t == n) = true → ∃ i, P.info? t = some i ∧ i.size = n := by
      intro n hn
      simp only [Bool.and_eq_true, beq_iff_eq] at hn
      obtain ⟨i, hi⟩ := Option.isSome_iff_exists.1 hn.1
      exact ⟨i, hi, by rw [← hn.2]; simp [Program.cellsOf, hi]⟩
    simp only [layout] at h
    split at h
    · split at h
      · cases h; exact key 1 (by assumption)
      · cases h
    · split at h
      · cases h; exact key 1 (by assumption)
      · cases h
    · simp only [Option.bind_eq_some_iff] at h
      obtain ⟨l, _, h⟩ := h
      split at h
      · cases h; exact key _ (by assumption)
      · cases h
    · simp only [Option.bind_eq_some_iff] at h
      obtain ⟨l, _, h⟩ := h
      split at h
      · rename_i hc
        cases h
        simp only [Bool.and_eq_true] at hc
        exact key _ (by simp only [Bool.and_eq_true]; exact hc.1.1)
      · cases h
    · cases h
end
end Go
end

section
namespace Go
open Go.RowKit
theorem bcell {W w1 : World} (hb : Below W.heap.size W w1) : (∀ b o, b < W.heap.size → w1.cell? ⟨b, o, none⟩ = W.cell? ⟨b, o, none⟩) ∧ (∀ b o, b < W.heap.size → w1.frozen? ⟨b, o, none⟩ = W.frozen? ⟨b, o, none⟩) :=
  ⟨fun b o h => hb.cell (p := ⟨b, o, none⟩) h, fun b o h => hb.frozen (p := ⟨b, o, none⟩) h⟩
theorem alloc_at (w : World) (o : Obj) : (w.alloc o).heap[w.heap.size]? = some o := by show (w.heap.push o)[w.heap.size]? = _; simp
/-- U: what stands in each operation's slot. -/
def fillPuts : List Oper → (Nat → Value) → Nat → Act → Act
  | [], _, _, a => a
  | o :: l, U, i, a => fillPuts l U (i + 1) (a.put o.dst (U i))
def updU (U : Nat → Value) (i : Nat) (v : Value) : Nat → Value := fun j => if j = i then v else U j
def maskU (S : List Nat) (U : Nat → Value) : Nat → Value := fun j => if S.contains j then U j else undef
def predsOf (o : Oper) : List Nat := o.after.toList.filterMap fun e => if Region.binds .any e then some e.on else none
def slotOf (a : Act) (dst : Option Tmp) : Value := match dst with | some d => a.tmps.getD d undef | none => undef
abbrev RelU := (Nat → Value) → World → Prop
def HypsU (Rs : List RelU) (U : Nat → Value) (w : World) : List Nat → Prop
  | [] => True
  | p :: ps => (Rs.getD p fun _ _ => True) U w ∧ HypsU Rs U w ps
def AllU (U : Nat → Value) (w : World) : List RelU → Prop
  | [] => True
  | r :: rs => r U w ∧ AllU U w rs
def InvPost (T : World → World → Prop) (d : List Deferred) (w : World) (dst : Option Tmp) (G : Value → World → Prop) (e : Exit) (a' : Act) (w' : World) : Prop :=
  e = .normal ∧ a'.defers = d ∧ T w w' ∧ G (slotOf a' dst) w'
/-- The block that a value points into. -/
def blkOf : Value → Option Nat
  | .pointer (some a) => some a.block
  | .slice (some a) _ _ => some a.block
  | .map (some m) => some m
  | _ => none
/-- A value that points into a block made between two worlds. -/
def FreshV (v : Value) (w w' : World) : Prop := ∃ p, blkOf v = some p ∧ w.heap.size ≤ p ∧ p < w'.heap.size
/-- The fresh values differ. -/
def ApartF (F : List Nat) (U : Nat → Value) : Prop := ∀ i j, F.contains i = true → F.contains j = true → i ≠ j → blkOf (U i) ≠ blkOf (U j)
section
variable {P : Program} {ops : Array Oper}
/-- The walk: for each operation of the head what holds of its value. -/
def wpInv (P : Program) (ops : Array Oper) (F : List Nat) (C : World → Prop) (T : World → World → Prop) (hd : List Oper) (a0 : Act) (fin : (Nat → Value) → World → Prop) : Nat → List RelU → List Oper → Prop
  | _, Rs, [] => ∀ U w, C w → AllU U w Rs → ApartF F U → fin U w
  | i, Rs, o :: rest => ∃ r : RelU, (∀ U w, r U w = r (maskU (i :: predsOf o) U) w) ∧ (∀ U w w', C w → T w w' → r U w → r U w') ∧
      (∀ U w, C w → HypsU Rs U w (predsOf o) → wpList P ops (InvPost T a0.defers w o.dst fun v w' => r (updU U i v) w' ∧ (F.contains i = true → FreshV v w w')) [o] (fillPuts hd U 0 a0) w) ∧
      wpInv P ops F C T hd a0 fin (i + 1) (Rs ++ [r]) rest
theorem fillPuts_defers : ∀ (l : List Oper) (U : Nat → Value) (i : Nat) (a : Act), (fillPuts l U i a).defers = a.defers
  | [], _, _, _ => rfl
  | o :: l, U, i, a => by
    rw [fillPuts, fillPuts_defers l]
    unfold Act.put; split <;> rfl
theorem Act.put_put (a : Act) (d : Option Tmp) (u v : Value) : (a.put d u).put d v = a.put d v := by
  unfold Act.put
  cases d with
  | none => rfl
  | some d => simp
/-- No slot is written twice. -/
def distinctDst : List Oper → Bool
  | [] => true
  | o :: l => (match o.dst with | some d => l.all (fun p => p.dst != some d) | none => true) && distinctDst l
theorem put_fill_comm {d : Option Tmp} {v : Value} : ∀ (l : List Oper) (U : Nat → Value) (i : Nat) (a : Act), (∀ t, d = some t → l.all (fun p => p.dst != some t) = true) →
    fillPuts l U i (a.put d v) = (fillPuts l U i a).put d v
  | [], _, _, _, _ => rfl
  | o :: l, U, i, a, h => by
    simp only [fillPuts]
    rw [← put_fill_comm l U (i + 1) (a.put o.dst (U i)) (fun t ht => by
      have := h t ht
      simp only [List.all_cons, Bool.and_eq_true] at this
      exact this.2)]
    congr 1
    refine Act.put_comm a v (U i) ?_
    intro t ht ht2
    have := h t ht
    simp only [List.all_cons, Bool.and_eq_true, bne_iff_ne, ne_eq] at this
    exact this.1 ht2
theorem fillPuts_upd_lt : ∀ (l : List Oper) (U : Nat → Value) (k i : Nat) (v : Value) (a : Act), k < i → fillPuts l (updU U k v) i a = fillPuts l U i a
  | [], _, _, _, _, _, _ => rfl
  | o :: l, U, k, i, v, a, h => by
    simp only [fillPuts]
    rw [fillPuts_upd_lt l U k (i + 1) v _ (by omega)]
    have : updU U k v i = U i := by unfold updU; rw [if_neg (by omega)]
    rw [this]
theorem fillPuts_put : ∀ (l : List Oper) (U : Nat → Value) (i k : Nat) (o : Oper) (v : Value) (a : Act), distinctDst l = true → l[k]? = some o →
    (fillPuts l U i a).put o.dst v = fillPuts l (updU U (i + k) v) i a
  | [], _, _, _, _, _, _, _, h => by simp at h
  | p :: l, U, i, 0, o, v, a, hd, h => by
    obtain rfl : p = o := by simpa using h
    simp only [distinctDst, Bool.and_eq_true] at hd
    simp only [fillPuts, Nat.add_zero]
    rw [fillPuts_upd_lt l U i (i + 1) v _ (by omega), ← put_fill_comm l U (i + 1) _ (fun t ht => by have := hd.1; rw [ht] at this; simpa using this), Act.put_put]
    have : updU U i v i = v := by unfold updU; rw [if_pos rfl]
    rw [this]
  | p :: l, U, i, k + 1, o, v, a, hd, h => by
    simp only [distinctDst, Bool.and_eq_true] at hd
    simp only [fillPuts]
    rw [fillPuts_put l U (i + 1) k o v _ hd.2 (by simpa using h), show i + 1 + k = i + (k + 1) by omega]
    have : updU U (i + (k + 1)) v i = U i := by unfold updU; rw [if_neg (by omega)]
    rw [this]
theorem put_slot (a : Act) (d : Option Tmp) (v : Value) : a.put d (slotOf (a.put d v) d) = a.put d v := by
  cases d with
  | none => rfl
  | some d =>
    simp only [Act.put, slotOf]
    by_cases h : d < a.tmps.size
    · simp [h]
    · rw [Array.setIfInBounds_eq_of_size_le (Nat.le_of_not_lt h), Array.setIfInBounds_eq_of_size_le (Nat.le_of_not_lt h)]
theorem updU_eq (U : Nat → Value) (i : Nat) (v : Value) : updU U i v i = v := by unfold updU; rw [if_pos rfl]
theorem maskU_upd {S : List Nat} {U : Nat → Value} {i : Nat} {v : Value} (h : S.contains i = false) : maskU S (updU U i v) = maskU S U := by
  funext j
  unfold maskU updU
  by_cases e : j = i
  · subst e; rw [h]; rfl
  · rw [if_neg e]
theorem wpOp_of_list_inv {i : Nat} {o : Oper} {K : Act → World → Prop} {Q : Exit → Act → World → Prop} {a : Act} {w : World} {T : World → World → Prop} {d : List Deferred} {G : Value → World → Prop}
    (hi : ops[i]? = some o) (hd : a.defers = d)
    (hK : ∀ v w', T w w' → G (slotOf (a.put o.dst v) o.dst) w' → K (a.put o.dst v) w')
    (h : wpList P ops (InvPost T d w o.dst G) [o] a w) : wpOp P ops Q i K a w := by
  have hQ : ∀ v w', InvPost T d w o.dst G .normal (a.put o.dst v) w' → K (a.put o.dst v) w' := fun v w' h => hK v w' h.2.2.1 h.2.2.2
  have hF : ¬ LetsOut (InvPost T d w o.dst G) := by
    rintro ⟨a1, w1, h1⟩
    exact absurd h1.1 (by simp)
  unfold wpOp
  simp only [hi]
  unfold wpList at h
  split
  · rename_i hw
    rw [if_pos hw] at h
    rcases h with h | ⟨_, h⟩
    · refine .inl ?_
      unfold Oper.wp at *
      generalize (execOp a.eval o).run P w = r at *
      cases r with
      | ok n w' =>
        cases n <;> simp only [Oper.upon] at h ⊢
        case value u => exact hQ _ _ h
        case skip => exact hQ _ _ h
        case defer c =>
          have h2 : (({ a with defers := c :: a.defers } : Act).put o.dst undef).defers = d := h.2.1
          have h3 : (({ a with defers := c :: a.defers } : Act).put o.dst undef).defers = c :: a.defers := by unfold Act.put; split <;> rfl
          rw [h3, ← hd] at h2
          exact absurd (congrArg List.length h2) (by simp)
        case enter f args =>
          refine Calls.mono h fun e w'' he => ?_
          cases e with
          | returned u => exact hQ _ _ he
          | panicked c => exact absurd he.1 (by simp)
          | outgrown => exact absurd he hF
        case row row args => exact Rows.mono h fun u w'' he => hQ _ _ he
      | halt x w' =>
        cases x <;> simp only [Oper.upon] at h ⊢
        case panic u => exact absurd h.1 (by simp)
    · exact absurd h hF
  · rename_i hw
    rw [if_neg hw] at h
    exact hQ _ _ h
theorem wpList_post {o : Oper} {a : Act} {w : World} {T : World → World → Prop} {d : List Deferred} {dst : Option Tmp} {G G' : Value → World → Prop}
    (hG : ∀ a' w', InvPost T d w dst G .normal a' w' → InvPost T d w dst G' .normal a' w') (h : wpList P ops (InvPost T d w dst G) [o] a w) : wpList P ops (InvPost T d w dst G') [o] a w := by
  have hF : ¬ LetsOut (InvPost T d w dst G) := by
    rintro ⟨a1, w1, h1⟩
    exact absurd h1.1 (by simp)
  unfold wpList at h ⊢
  split
  · rename_i hw
    rw [if_pos hw] at h
    rcases h with h | ⟨_, h⟩
    · refine .inl ?_
      unfold Oper.wp at *
      generalize (execOp a.eval o).run P w = r at *
      cases r with
      | ok n w' =>
        cases n <;> simp only [Oper.upon] at h ⊢
        case value u => exact hG _ _ h
        case skip => exact hG _ _ h
        case defer c => exact hG _ _ h
        case enter f args =>
          refine Calls.mono h fun e w'' he => ?_
          cases e with
          | returned u => exact hG _ _ he
          | panicked c => exact absurd he.1 (by simp)
          | outgrown => exact absurd he hF
        case row row args => exact Rows.mono h fun u w'' he => hG _ _ he
      | halt x w' =>
        cases x <;> simp only [Oper.upon] at h ⊢
        case panic u => exact absurd h.1 (by simp)
    · exact absurd h hF
  · rename_i hw
    rw [if_neg hw] at h
    exact hG _ _ h
/-- Every edge leads back. -/
def backB (ops : Array Oper) : Bool := (List.range ops.size).all fun i => ((ops[i]?).map fun o => o.after.all fun e => !Region.binds .any e || decide (e.on < i)).getD true
def seqAfter (ops : Array Oper) (n : Nat) : Bool := Region.seqB .any ops (ops.size - n) n ((List.range ops.size).map fun i => decide (i < n)).toArray
def invB (ops : Array Oper) (n : Nat) : Bool :=
  decide (n < ops.size) && Region.sinkB .any ops n && Region.chainB .any ops n && backB ops && distinctDst (ops.toList.take n) && seqAfter ops n
theorem backB_spec (h : backB ops = true) {i : Nat} {o : Oper} (ho : ops[i]? = some o) : ∀ e ∈ o.after, Region.binds .any e = true → e.on < i := by
  intro e he hb
  have hlt : i < ops.size := (Array.getElem?_eq_some_iff.1 ho).1
  have h1 := List.all_eq_true.1 h i (List.mem_range.2 hlt)
  rw [ho] at h1
  simp only [Option.map_some, Option.getD_some, Array.all_eq_true_iff_forall_mem, Bool.or_eq_true, Bool.not_eq_true', decide_eq_true_eq] at h1
  rcases h1 e he with h2 | h2
  · rw [hb] at h2; cases h2
  · exact h2
theorem of_mem_predsOf {o : Oper} {p : Nat} (h : p ∈ predsOf o) : ∃ e ∈ o.after, Region.binds .any e = true ∧ e.on = p := by
  unfold predsOf at h
  rw [List.mem_filterMap] at h
  obtain ⟨e, he, h2⟩ := h
  split at h2
  · rename_i hb
    exact ⟨e, by simpa using he, hb, by simpa using h2⟩
  · cases h2
/-- What is known of a head: each operation's relation, that it looks at no other's value, that it stays, and its step. -/
structure HeadOK (P : Program) (ops : Array Oper) (F : List Nat) (C : World → Prop) (T : World → World → Prop) (hd : List Oper) (a0 : Act) (Rs : List RelU) : Prop where
  len : Rs.length = hd.length
  loc : ∀ j o, hd[j]? = some o → ∀ U w, (Rs.getD j fun _ _ => True) U w = (Rs.getD j fun _ _ => True) (maskU (j :: predsOf o) U) w
  stay : ∀ j U w w', C w → T w w' → (Rs.getD j fun _ _ => True) U w → (Rs.getD j fun _ _ => True) U w'
  step : ∀ j o, hd[j]? = some o → ∀ U w, C w → HypsU Rs U w (predsOf o) → wpList P ops (InvPost T a0.defers w o.dst fun v w' => (Rs.getD j fun _ _ => True) (updU U j v) w' ∧ (F.contains j = true → FreshV v w w')) [o] (fillPuts hd U 0 a0) w
theorem hypsU_append {Rs : List RelU} {more : List RelU} {U : Nat → Value} {w : World} : ∀ (ps : List Nat), (∀ p ∈ ps, p < Rs.length) → HypsU (Rs ++ more) U w ps → HypsU Rs U w ps
  | [], _, _ => trivial
  | p :: ps, hl, h => by
    refine ⟨?_, hypsU_append ps (fun q hq => hl q (by simp [hq])) h.2⟩
    have := h.1
    rwa [List.getD_eq_getElem?_getD, List.getElem?_append_left (hl p (by simp)), ← List.getD_eq_getElem?_getD] at this
theorem wpInv_ok {F : List Nat} {C : World → Prop} {T : World → World → Prop} {hd : List Oper} {a0 : Act} {fin : (Nat → Value) → World → Prop}
    (hback : ∀ j o, hd[j]? = some o → ∀ p ∈ predsOf o, p < j) :
    ∀ (rest : List Oper) (i : Nat) (Rs : List RelU), Rs.length = i → hd.drop i = rest → i ≤ hd.length →
      (∀ j o, j < i → hd[j]? = some o → ∀ U w, (Rs.getD j fun _ _ => True) U w = (Rs.getD j fun _ _ => True) (maskU (j :: predsOf o) U) w) →
      (∀ j U w w', j < i → C w → T w w' → (Rs.getD j fun _ _ => True) U w → (Rs.getD j fun _ _ => True) U w') →
      (∀ j o, j < i → hd[j]? = some o → ∀ U w, C w → HypsU Rs U w (predsOf o) → wpList P ops (InvPost T a0.defers w o.dst fun v w' => (Rs.getD j fun _ _ => True) (updU U j v) w' ∧ (F.contains j = true → FreshV v w w')) [o] (fillPuts hd U 0 a0) w) →
      wpInv P ops F C T hd a0 fin i Rs rest → ∃ Rs', HeadOK P ops F C T hd a0 Rs' ∧ ∀ U w, C w → AllU U w Rs' → ApartF F U → fin U w
  | [], i, Rs, hl, hdrop, hle, h1, h2, h3, h => by
    have hi : hd.length = i := by
      have := congrArg List.length hdrop
      simp at this
      omega
    refine ⟨Rs, ⟨by omega, fun j o hj => h1 j o (by rw [← hi]; exact (List.getElem?_eq_some_iff.1 hj).1) hj, fun j U w w' => ?_, fun j o hj => h3 j o (by rw [← hi]; exact (List.getElem?_eq_some_iff.1 hj).1) hj⟩, h⟩
    by_cases hj : j < i
    · exact h2 j U w w' hj
    · intro _ _ _
      rw [List.getD_eq_getElem?_getD, List.getElem?_eq_none (by omega)]
      trivial
  | o :: rest, i, Rs, hl, hdrop, hle, h1, h2, h3, h => by
    obtain ⟨r, ha, hb, hc, hn⟩ := h
    have hoi : hd[i]? = some o := by
      have := congrArg (fun l => l[0]?) hdrop
      simpa using this
    have hlt : i < hd.length := (List.getElem?_eq_some_iff.1 hoi).1
    have gl : ∀ j, j < i → (Rs ++ [r]).getD j (fun _ _ => True) = Rs.getD j (fun _ _ => True) := fun j hj => by
      rw [List.getD_eq_getElem?_getD, List.getElem?_append_left (by omega), ← List.getD_eq_getElem?_getD]
    have gi : (Rs ++ [r]).getD i (fun _ _ => True) = r := by
      rw [List.getD_eq_getElem?_getD, List.getElem?_append_right (by omega)]
      simp [hl]
    refine wpInv_ok hback rest (i + 1) (Rs ++ [r]) (by simp [hl]) ?_ (by omega) ?_ ?_ ?_ hn
    · rw [← List.drop_drop, hdrop]; rfl
    · intro j p hj hp U w
      by_cases e : j = i
      · subst e
        rw [gi]
        obtain rfl : p = o := Option.some.inj (hp.symm.trans hoi)
        exact ha U w
      · rw [gl j (by omega)]; exact h1 j p (by omega) hp U w
    · intro j U w w' hj
      by_cases e : j = i
      · subst e; rw [gi]; exact hb U w w'
      · rw [gl j (by omega)]; exact h2 j U w w' (by omega)
    · intro j p hj hp U w hC hH
      have hp' : ∀ q ∈ predsOf p, q < Rs.length := fun q hq => by have := hback j p hp q hq; omega
      have hH' := hypsU_append (predsOf p) hp' hH
      by_cases e : j = i
      · subst e
        rw [gi]
        obtain rfl : p = o := Option.some.inj (hp.symm.trans hoi)
        exact hc U w hC hH'
      · rw [gl j (by omega)]
        exact h3 j p (by omega) hp U w hC hH'
theorem hypsU_of {Rs : List RelU} {U : Nat → Value} {w : World} : ∀ (ps : List Nat), (∀ p ∈ ps, (Rs.getD p fun _ _ => True) U w) → HypsU Rs U w ps
  | [], _ => trivial
  | p :: ps, h => ⟨h p (by simp), hypsU_of ps fun q hq => h q (by simp [hq])⟩
theorem allU_of {U : Nat → Value} {w : World} : ∀ (Rs : List RelU), (∀ j, j < Rs.length → (Rs.getD j fun _ _ => True) U w) → AllU U w Rs
  | [], _ => trivial
  | r :: rs, h => ⟨by simpa using h 0 (by simp), allU_of rs fun j hj => by simpa using h (j + 1) (by simpa using hj)⟩
theorem wpAny_of_inv {F : List Nat} {C : World → Prop} {T : World → World → Prop} {n : Nat} {a0 : Act} {Rs : List RelU} {Q : Exit → Act → World → Prop} {l : List Oper} (hops : ops = l.toArray) (hB : invB ops n = true)
    (hCT : ∀ w w', C w → T w w' → C w') (hTs : ∀ w w', T w w' → w.heap.size ≤ w'.heap.size) (hFn : F.all (fun i => decide (i < n)) = true) (hOK : HeadOK P ops F C T (l.take n) a0 Rs)
    (hfin : ∀ U w, C w → AllU U w Rs → ApartF F U → wpList P ops Q (l.drop n) (fillPuts (l.take n) U 0 a0) w) :
    ∀ (f : Nat) (L : List Nat) (listed : Array Bool) (U : Nat → Value) (w : World), L.Nodup → L.length = f → (∀ j, j ∈ L ↔ j < n ∧ listed.getD j true = false) → HeadInv .any ops n listed → C w →
      (∀ j, j < n → listed.getD j false = true → (Rs.getD j fun _ _ => True) U w) → (∀ j, F.contains j = true → listed.getD j false = true → ∃ p, blkOf (U j) = some p ∧ p < w.heap.size) →
      (∀ i j, F.contains i = true → F.contains j = true → i ≠ j → listed.getD i false = true → listed.getD j false = true → blkOf (U i) ≠ blkOf (U j)) → wpAny P .any ops Q (f + (ops.size - n)) listed (fillPuts (l.take n) U 0 a0) w := by
  simp only [invB, Bool.and_eq_true, decide_eq_true_eq] at hB
  obtain ⟨⟨⟨⟨⟨hn, hs⟩, hc⟩, hback⟩, hdist⟩, hseq⟩ := hB
  have hlen : (l.take n).length = n := by subst hops; simp at hn ⊢; omega
  have hdl : (l.drop n).length = ops.size - n := by subst hops; simp
  intro f
  induction f with
  | zero =>
    intro L listed U w hnd hL hmem inv hC hR hFb hFd
    have hL0 : L = [] := List.length_eq_zero_iff.1 hL
    subst hL0
    have hall : ∀ j, j < n → listed.getD j true = true := fun j hj => by
      cases h : listed.getD j true with
      | true => rfl
      | false => exact absurd ((hmem j).2 ⟨hj, h⟩) (by simp)
    have hlisted : listed = ((List.range ops.size).map fun i => decide (i < n)).toArray := by
      apply Array.ext
      · simp [inv.size]
      · intro i h1 h2
        simp only [List.getElem_toArray, List.getElem_map, List.getElem_range]
        by_cases hi : i < n
        · have := hall i hi
          simp [h1] at this
          simp [this, hi]
        · have := inv.tail i (by omega) (by rw [← inv.size]; exact h1)
          simp [h1] at this
          simp [this, hi]
    rw [Nat.zero_add, ← hdl]
    refine wpAny_of_seq (l.drop n) n listed _ w (fun j => by subst hops; simp [List.getElem?_drop]) (by rw [hdl, hlisted]; exact hseq) ?_
    have hallf : ∀ j, j < n → listed.getD j false = true := fun j hjn => by
      have := hall j hjn
      have hjs : j < listed.size := by rw [inv.size]; omega
      simp [hjs] at this ⊢
      exact this
    have hFn' : ∀ j, F.contains j = true → j < n := fun j hj => by
      have := List.all_eq_true.1 hFn j (List.contains_iff_mem.1 hj)
      simpa using this
    refine hfin U w hC (allU_of Rs fun j hj => hR j (by rw [hOK.len, hlen] at hj; exact hj) (hallf j (by rw [hOK.len, hlen] at hj; exact hj))) (fun i j hi hj hij => hFd i j hi hj hij (hallf i (hFn' i hi)) (hallf j (hFn' j hj)))
  | succ f ih =>
    intro L listed U w hnd hL hmem inv hC hR hFb hFd
    have hne : L ≠ [] := fun h => by subst h; simp at hL
    obtain ⟨i0, hi0⟩ := List.exists_mem_of_ne_nil L hne
    obtain ⟨hi0n, hi0u⟩ := (hmem i0).1 hi0
    -- the least one that is not listed may come up
    have hready : Region.ready .any ops listed ≠ [] := by
      have key : ∀ (d i : Nat), i ≤ d → i < n → listed.getD i true = false → Region.ready .any ops listed ≠ [] := by
        intro d
        induction d with
        | zero =>
          intro i hid hin hiu
          have hi : i = 0 := by omega
          subst hi
          have hlt : 0 < ops.size := by omega
          intro h
          have : 0 ∈ Region.ready .any ops listed := mem_ready.2 ⟨hiu, ops[0], by simp [hlt], fun e he hb => absurd (backB_spec hback (i := 0) (by simp [hlt]) e he hb) (by omega)⟩
          rw [h] at this; cases this
        | succ d ihd =>
          intro i hid hin hiu
          have hlt : i < ops.size := by omega
          by_cases hex : ∃ e ∈ ops[i].after, Region.binds .any e = true ∧ listed.getD e.on false = false
          · obtain ⟨e, he, hb, hu⟩ := hex
            have hlt2 := backB_spec hback (i := i) (by simp [hlt]) e he hb
            exact ihd e.on (by omega) (by omega) (getD_in (by rw [inv.size]; omega) hu)
          · intro h
            have : i ∈ Region.ready .any ops listed := mem_ready.2 ⟨hiu, ops[i], by simp [hlt], fun e he hb => by
              cases h' : listed.getD e.on false with
              | true => rfl
              | false => exact absurd ⟨e, he, hb, h'⟩ hex⟩
            rw [h] at this; cases this
      exact key i0 i0 (Nat.le_refl _) hi0n hi0u
    rw [show f + 1 + (ops.size - n) = (f + (ops.size - n)) + 1 by omega]
    refine ⟨fun h => absurd h hready, fun i hi => ?_⟩
    obtain ⟨hiu, o, ho, hall⟩ := mem_ready.1 hi
    have hin : i < n := by
      rcases Nat.lt_or_ge i n with h | h
      · exact h
      · exact absurd hi (tail_waits hs hc hn inv _ i0 rfl hi0n hi0u i h)
    have hio : (l.take n)[i]? = some o := by
      subst hops
      rw [List.getElem?_take_of_lt hin]
      simpa using ho
    have hp : ∀ p ∈ predsOf o, p < n ∧ listed.getD p false = true := fun p hp => by
      obtain ⟨e, he, hb, rfl⟩ := of_mem_predsOf hp
      have := backB_spec hback ho e he hb
      exact ⟨by omega, hall e he hb⟩
    have hstep := hOK.step i o hio U w hC (hypsU_of _ fun p hpp => hR p (hp p hpp).1 (hp p hpp).2)
    refine wpOp_of_list_inv ho (fillPuts_defers _ _ _ _) (fun v w' hT hG => ?_) hstep
    have hC' := hCT w w' hC hT
    rw [← put_slot, fillPuts_put (l.take n) U 0 i o _ a0 (by subst hops; simpa using hdist) hio, Nat.zero_add]
    refine ih (L.erase i) (listed.setIfInBounds i true) _ w' (hnd.erase i) (by rw [List.length_erase_of_mem ((hmem i).2 ⟨hin, hiu⟩), hL]; rfl) (fun j => ?_) (inv.set hi hin) hC' (fun j hj hjl => ?_) ?_ ?_
    · rw [hnd.mem_erase_iff, hmem j]
      by_cases e : i = j
      · subst e
        constructor
        · rintro ⟨h, _⟩; exact absurd rfl h
        · rintro ⟨_, h⟩
          have hsz : i < listed.size := by rw [inv.size]; omega
          simp [hsz] at h
      · rw [getD_set_ne true e]
        constructor
        · rintro ⟨_, h⟩; exact h
        · intro h; exact ⟨fun h' => e h'.symm, h⟩
    · by_cases e : i = j
      · subst e; exact hG.1
      · rw [getD_set_ne false e] at hjl
        have hj1 := hOK.stay j U w w' hC hT (hR j hj hjl)
        have hjs : j < ops.size := by omega
        obtain ⟨oj, hoj⟩ : ∃ oj, ops[j]? = some oj := ⟨ops[j], by simp [hjs]⟩
        have hjo : (l.take n)[j]? = some oj := by
          subst hops
          rw [List.getElem?_take_of_lt hj]
          simpa using hoj
        have hni : (j :: predsOf oj).contains i = false := by
          rw [Bool.eq_false_iff]
          intro h
          rcases List.mem_cons.1 (List.contains_iff_mem.1 h) with h | h
          · exact e h
          · obtain ⟨e', he', hb', rfl⟩ := of_mem_predsOf h
            have := inv.closed j oj hoj hjl e' he' hb'
            rw [getD_both hiu] at this
            cases this
        rw [hOK.loc j oj hjo, maskU_upd hni, ← hOK.loc j oj hjo]
        exact hj1
    · intro j hj hjl
      by_cases e : i = j
      · subst e
        obtain ⟨p, hp1, _, hp2⟩ := hG.2 hj
        exact ⟨p, by rw [updU_eq]; exact hp1, hp2⟩
      · rw [getD_set_ne false e] at hjl
        obtain ⟨p, hp1, hp2⟩ := hFb j hj hjl
        refine ⟨p, ?_, Nat.lt_of_lt_of_le hp2 (hTs _ _ hT)⟩
        have : updU U i (slotOf (fillPuts (l.take n) U 0 a0 |>.put o.dst v) o.dst) j = U j := by unfold updU; rw [if_neg (fun h => e h.symm)]
        rw [this]; exact hp1
    · intro j k hj hk hjk hjl hkl
      have old : ∀ q, i ≠ q → updU U i (slotOf (fillPuts (l.take n) U 0 a0 |>.put o.dst v) o.dst) q = U q := fun q e => by unfold updU; rw [if_neg (fun h => e h.symm)]
      by_cases e : i = j
      · subst e
        have e2 : i ≠ k := hjk
        rw [getD_set_ne false e2] at hkl
        obtain ⟨p, hp1, hp2, _⟩ := hG.2 hj
        obtain ⟨q, hq1, hq2⟩ := hFb k hk hkl
        rw [updU_eq, old k e2, hp1, hq1]
        intro h
        have := Option.some.inj h
        omega
      · rw [getD_set_ne false e] at hjl
        by_cases e2 : i = k
        · subst e2
          obtain ⟨p, hp1, hp2, _⟩ := hG.2 hk
          obtain ⟨q, hq1, hq2⟩ := hFb j hj hjl
          rw [updU_eq, old j e, hp1, hq1]
          intro h
          have := Option.some.inj h
          omega
        · rw [getD_set_ne false e2] at hkl
          rw [old j e, old k e2]
          exact hFd j k hj hk hjk hjl hkl
/-- An operation whose value hangs on the values ahead of it alone. -/
theorem wpInv_det {F : List Nat} {C : World → Prop} {T : World → World → Prop} {hd : List Oper} {a0 : Act} {fin : (Nat → Value) → World → Prop} {i : Nat} {Rs : List RelU} {o : Oper} {rest : List Oper} (hp : (predsOf o).contains i = false) (hF : F.contains i = false)
    (h : ∃ f : (Nat → Value) → Value, (∀ U w, C w → HypsU Rs U w (predsOf o) → wpList P ops (InvPost T a0.defers w o.dst fun v _ => v = f U) [o] (fillPuts hd U 0 a0) w) ∧
      (∀ U, f U = f (maskU (predsOf o) U)) ∧ wpInv P ops F C T hd a0 fin (i + 1) (Rs ++ [fun U _ => U i = f U]) rest) : wpInv P ops F C T hd a0 fin i Rs (o :: rest) := by
  obtain ⟨f, h1, h2, h3⟩ := h
  have e1 : ∀ U, maskU (predsOf o) (maskU (i :: predsOf o) U) = maskU (predsOf o) U := fun U => by
    funext j
    unfold maskU
    by_cases hj : (predsOf o).contains j = true
    · rw [if_pos hj, if_pos hj, if_pos (by simp at hj ⊢; exact .inr hj)]
    · rw [if_neg hj, if_neg hj]
  refine ⟨fun U _ => U i = f U, fun U w => ?_, fun _ _ _ _ _ h => h, fun U w hC hH => ?_, h3⟩
  · have e2 : maskU (i :: predsOf o) U i = U i := by unfold maskU; rw [if_pos (by simp)]
    have e3 : f (maskU (i :: predsOf o) U) = f U := by rw [h2, e1, ← h2]
    show (U i = f U) = (maskU (i :: predsOf o) U i = f (maskU (i :: predsOf o) U))
    rw [e2, e3]
  · refine wpList_post (fun a' w' hq => ?_) (h1 U w hC hH)
    refine ⟨hq.1, hq.2.1, hq.2.2.1, ?_, fun h => by rw [hF] at h; cases h⟩
    have hq4 := hq.2.2.2
    show updU U i (slotOf a' o.dst) i = f (updU U i (slotOf a' o.dst))
    rw [updU_eq, hq4, h2 (updU U i (f U)), maskU_upd hp, ← h2]
/-- What stands in the slots at the beginning. -/
theorem fillPuts_start : ∀ (l : List Oper) (i : Nat) (a : Act), ∃ U, fillPuts l U i a = a
  | [], _, a => ⟨fun _ => undef, rfl⟩
  | o :: l, i, a => by
    obtain ⟨U, hU⟩ := fillPuts_start l (i + 1) a
    refine ⟨updU U i (slotOf a o.dst), ?_⟩
    simp only [fillPuts, updU_eq]
    rw [fillPuts_upd_lt l U i (i + 1) _ _ (by omega)]
    have : a.put o.dst (slotOf a o.dst) = a := by
      unfold Act.put slotOf
      cases o.dst with
      | none => rfl
      | some d =>
        simp only
        by_cases h : d < a.tmps.size
        · obtain ⟨tm, df⟩ := a
          congr 1
          apply Array.ext
          · simp
          · intro k h1 h2
            rw [Array.getElem_setIfInBounds]
            split
            · rename_i e; subst e; simp
            · rfl
        · rw [Array.setIfInBounds_eq_of_size_le (Nat.le_of_not_lt h)]
    rw [this]
    exact hU
theorem wp_region_inv {id : Nat} {Q : Exit → Act → World → Prop} {a : Act} {w : World} {l : List Oper} (F : List Nat) (C : World → Prop) (T : World → World → Prop) (n : Nat) (hm : P.follows .mixedOrders = true) (hB : invB l.toArray n = true)
    (hFn : F.all (fun i => decide (i < n)) = true) (hC : C w.drew) (hCT : ∀ w w', C w → T w w' → C w') (hTs : ∀ w w', T w w' → w.heap.size ≤ w'.heap.size)
    (h : wpInv P l.toArray F C T (l.take n) a (fun U w => wpList P l.toArray Q (l.drop n) (fillPuts (l.take n) U 0 a) w) 0 [] (l.take n)) : (Code.region id l.toArray true).wp P Q a w := by
  refine wp_region_any hm ?_
  have hB' := hB
  simp only [invB, Bool.and_eq_true, decide_eq_true_eq] at hB'
  obtain ⟨⟨⟨⟨⟨hn, hs⟩, hc⟩, hback⟩, hdist⟩, hseq⟩ := hB'
  have hn' : n < l.length := by simpa using hn
  obtain ⟨Rs, hOK, hfin⟩ := wpInv_ok (P := P) (hd := l.take n) (fun j o hj p hp => by
    obtain ⟨e, he, hb, rfl⟩ := of_mem_predsOf hp
    have hjn : j < n := by have := (List.getElem?_eq_some_iff.1 hj).1; simp at this; omega
    rw [List.getElem?_take_of_lt hjn] at hj
    exact backB_spec hback (i := j) (by simpa using hj) e he hb) (l.take n) 0 [] rfl rfl (by omega) (fun j o hj => absurd hj (by omega)) (fun j U w w' hj => absurd hj (by omega)) (fun j o hj => absurd hj (by omega)) h
  obtain ⟨U, hU⟩ := fillPuts_start (l.take n) 0 a
  have := wpAny_of_inv (P := P) (Q := Q) rfl hB hCT hTs hFn hOK hfin n (List.range n) (Array.replicate l.toArray.size false) U { w with drawn := w.drawn + 1 } List.nodup_range (by simp) (fun j => by
      rw [List.mem_range]
      constructor
      · intro hj
        exact ⟨hj, getD_in (by simp; omega) (getD_replicate_false _ _)⟩
      · exact fun h => h.1)
    ⟨by simp, fun j oj _ hl => (by rw [getD_replicate_false] at hl; cases hl), fun t _ ht => getD_in (by simpa using ht) (getD_replicate_false _ _)⟩ hC (fun j _ hl => by rw [getD_replicate_false] at hl; cases hl) (fun j _ hl => by rw [getD_replicate_false] at hl; cases hl) (fun i j _ _ _ hl => by rw [getD_replicate_false] at hl; cases hl)
  rw [hU] at this
  have e : n + (l.toArray.size - n) = l.toArray.size := by omega
  rwa [e] at this
end
end Go
end

section
namespace Go.RI
open Go Go.RowKit
section
variable {P : Program} {ops : Array Oper}
/-- The walk: for each operation of the head what holds of its value. -/
def wpInv (P : Program) (ops : Array Oper) (F : List Nat) (C : (Nat → Bool) → World → Prop) (T : Nat → World → World → Prop) (hd : List Oper) (a0 : Act) (fin : (Nat → Value) → World → Prop) : Nat → List RelU → List Oper → Prop
  | i, Rs, [] => ∀ D U w, (∀ k, k < i → D k = true) → C D w → AllU U w Rs → ApartF F U → fin U w
  | i, Rs, o :: rest => ∃ r : RelU, (∀ U w, r U w = r (maskU (i :: predsOf o) U) w) ∧ (∀ k D U w w', k ≠ i → D k = false → C D w → T k w w' → r U w → r U w') ∧
      (∀ D U w, D i = false → C D w → HypsU Rs U w (predsOf o) → wpList P ops (InvPost (T i) a0.defers w o.dst fun v w' => r (updU U i v) w' ∧ (F.contains i = true → FreshV v w w')) [o] (fillPuts hd U 0 a0) w) ∧
      wpInv P ops F C T hd a0 fin (i + 1) (Rs ++ [r]) rest
/-- What is known of a head: each operation's relation, that it looks at no other's value, that it stays, and its step. -/
structure HeadOK (P : Program) (ops : Array Oper) (F : List Nat) (C : (Nat → Bool) → World → Prop) (T : Nat → World → World → Prop) (hd : List Oper) (a0 : Act) (Rs : List RelU) : Prop where
  len : Rs.length = hd.length
  loc : ∀ j o, hd[j]? = some o → ∀ U w, (Rs.getD j fun _ _ => True) U w = (Rs.getD j fun _ _ => True) (maskU (j :: predsOf o) U) w
  stay : ∀ k j D U w w', k ≠ j → D k = false → C D w → T k w w' → (Rs.getD j fun _ _ => True) U w → (Rs.getD j fun _ _ => True) U w'
  step : ∀ j o, hd[j]? = some o → ∀ D U w, D j = false → C D w → HypsU Rs U w (predsOf o) → wpList P ops (InvPost (T j) a0.defers w o.dst fun v w' => (Rs.getD j fun _ _ => True) (updU U j v) w' ∧ (F.contains j = true → FreshV v w w')) [o] (fillPuts hd U 0 a0) w
theorem wpInv_ok {F : List Nat} {C : (Nat → Bool) → World → Prop} {T : Nat → World → World → Prop} {hd : List Oper} {a0 : Act} {fin : (Nat → Value) → World → Prop}
    (hback : ∀ j o, hd[j]? = some o → ∀ p ∈ predsOf o, p < j) :
    ∀ (rest : List Oper) (i : Nat) (Rs : List RelU), Rs.length = i → hd.drop i = rest → i ≤ hd.length →
      (∀ j o, j < i → hd[j]? = some o → ∀ U w, (Rs.getD j fun _ _ => True) U w = (Rs.getD j fun _ _ => True) (maskU (j :: predsOf o) U) w) →
      (∀ k j D U w w', j < i → k ≠ j → D k = false → C D w → T k w w' → (Rs.getD j fun _ _ => True) U w → (Rs.getD j fun _ _ => True) U w') →
      (∀ j o, j < i → hd[j]? = some o → ∀ D U w, D j = false → C D w → HypsU Rs U w (predsOf o) → wpList P ops (InvPost (T j) a0.defers w o.dst fun v w' => (Rs.getD j fun _ _ => True) (updU U j v) w' ∧ (F.contains j = true → FreshV v w w')) [o] (fillPuts hd U 0 a0) w) →
      wpInv P ops F C T hd a0 fin i Rs rest → ∃ Rs', HeadOK P ops F C T hd a0 Rs' ∧ ∀ D U w, (∀ k, k < hd.length → D k = true) → C D w → AllU U w Rs' → ApartF F U → fin U w
  | [], i, Rs, hl, hdrop, hle, h1, h2, h3, h => by
    have hi : hd.length = i := by
      have := congrArg List.length hdrop
      simp at this
      omega
    refine ⟨Rs, ⟨by omega, fun j o hj => h1 j o (by rw [← hi]; exact (List.getElem?_eq_some_iff.1 hj).1) hj, fun k j D U w w' => ?_, fun j o hj => h3 j o (by rw [← hi]; exact (List.getElem?_eq_some_iff.1 hj).1) hj⟩, fun D U w hD => h D U w (fun k hk => hD k (by omega))⟩
    by_cases hj : j < i
    · exact h2 k j D U w w' hj
    · intro _ _ _ _ _
      rw [List.getD_eq_getElem?_getD, List.getElem?_eq_none (by omega)]
      trivial
  | o :: rest, i, Rs, hl, hdrop, hle, h1, h2, h3, h => by
    obtain ⟨r, ha, hb, hc, hn⟩ := h
    have hoi : hd[i]? = some o := by
      have := congrArg (fun l => l[0]?) hdrop
      simpa using this
    have hlt : i < hd.length := (List.getElem?_eq_some_iff.1 hoi).1
    have gl : ∀ j, j < i → (Rs ++ [r]).getD j (fun _ _ => True) = Rs.getD j (fun _ _ => True) := fun j hj => by
      rw [List.getD_eq_getElem?_getD, List.getElem?_append_left (by omega), ← List.getD_eq_getElem?_getD]
    have gi : (Rs ++ [r]).getD i (fun _ _ => True) = r := by
      rw [List.getD_eq_getElem?_getD, List.getElem?_append_right (by omega)]
      simp [hl]
    refine wpInv_ok hback rest (i + 1) (Rs ++ [r]) (by simp [hl]) ?_ (by omega) ?_ ?_ ?_ hn
    · rw [← List.drop_drop, hdrop]; rfl
    · intro j p hj hp U w
      by_cases e : j = i
      · subst e
        rw [gi]
        obtain rfl : p = o := Option.some.inj (hp.symm.trans hoi)
        exact ha U w
      · rw [gl j (by omega)]; exact h1 j p (by omega) hp U w
    · intro k j D U w w' hj
      by_cases e : j = i
      · subst e; rw [gi]; exact hb k D U w w'
      · rw [gl j (by omega)]; exact h2 k j D U w w' (by omega)
    · intro j p hj hp D U w hDj hC hH
      have hp' : ∀ q ∈ predsOf p, q < Rs.length := fun q hq => by have := hback j p hp q hq; omega
      have hH' := hypsU_append (predsOf p) hp' hH
      by_cases e : j = i
      · subst e
        rw [gi]
        obtain rfl : p = o := Option.some.inj (hp.symm.trans hoi)
        exact hc D U w hDj hC hH'
      · rw [gl j (by omega)]
        exact h3 j p (by omega) hp D U w hDj hC hH'
theorem wpAny_of_inv {F : List Nat} {C : (Nat → Bool) → World → Prop} {T : Nat → World → World → Prop} {n : Nat} {a0 : Act} {Rs : List RelU} {Q : Exit → Act → World → Prop} {l : List Oper} (hops : ops = l.toArray) (hB : invB ops n = true)
    (hCT : ∀ k D w w', D k = false → C D w → T k w w' → C (fun j => if j = k then true else D j) w') (hTs : ∀ k w w', T k w w' → w.heap.size ≤ w'.heap.size) (hFn : F.all (fun i => decide (i < n)) = true) (hOK : HeadOK P ops F C T (l.take n) a0 Rs)
    (hfin : ∀ D U w, (∀ k, k < n → D k = true) → C D w → AllU U w Rs → ApartF F U → wpList P ops Q (l.drop n) (fillPuts (l.take n) U 0 a0) w) :
    ∀ (f : Nat) (L : List Nat) (listed : Array Bool) (U : Nat → Value) (w : World), L.Nodup → L.length = f → (∀ j, j ∈ L ↔ j < n ∧ listed.getD j true = false) → HeadInv .any ops n listed → C (fun k => listed.getD k false) w →
      (∀ j, j < n → listed.getD j false = true → (Rs.getD j fun _ _ => True) U w) → (∀ j, F.contains j = true → listed.getD j false = true → ∃ p, blkOf (U j) = some p ∧ p < w.heap.size) →
      (∀ i j, F.contains i = true → F.contains j = true → i ≠ j → listed.getD i false = true → listed.getD j false = true → blkOf (U i) ≠ blkOf (U j)) → wpAny P .any ops Q (f + (ops.size - n)) listed (fillPuts (l.take n) U 0 a0) w := by
  simp only [invB, Bool.and_eq_true, decide_eq_true_eq] at hB
  obtain ⟨⟨⟨⟨⟨hn, hs⟩, hc⟩, hback⟩, hdist⟩, hseq⟩ := hB
  have hlen : (l.take n).length = n := by subst hops; simp at hn ⊢; omega
  have hdl : (l.drop n).length = ops.size - n := by subst hops; simp
  intro f
  induction f with
  | zero =>
    intro L listed U w hnd hL hmem inv hC hR hFb hFd
    have hL0 : L = [] := List.length_eq_zero_iff.1 hL
    subst hL0
    have hall : ∀ j, j < n → listed.getD j true = true := fun j hj => by
      cases h : listed.getD j true with
      | true => rfl
      | false => exact absurd ((hmem j).2 ⟨hj, h⟩) (by simp)
    have hlisted : listed = ((List.range ops.size).map fun i => decide (i < n)).toArray := by
      apply Array.ext
      · simp [inv.size]
      · intro i h1 h2
        simp only [List.getElem_toArray, List.getElem_map, List.getElem_range]
        by_cases hi : i < n
        · have := hall i hi
          simp [h1] at this
          simp [this, hi]
        · have := inv.tail i (by omega) (by rw [← inv.size]; exact h1)
          simp [h1] at this
          simp [this, hi]
    rw [Nat.zero_add, ← hdl]
    refine wpAny_of_seq (l.drop n) n listed _ w (fun j => by subst hops; simp [List.getElem?_drop]) (by rw [hdl, hlisted]; exact hseq) ?_
    have hallf : ∀ j, j < n → listed.getD j false = true := fun j hjn => by
      have := hall j hjn
      have hjs : j < listed.size := by rw [inv.size]; omega
      simp [hjs] at this ⊢
      exact this
    have hFn' : ∀ j, F.contains j = true → j < n := fun j hj => by
      have := List.all_eq_true.1 hFn j (List.contains_iff_mem.1 hj)
      simpa using this
    refine hfin _ U w hallf hC (allU_of Rs fun j hj => hR j (by rw [hOK.len, hlen] at hj; exact hj) (hallf j (by rw [hOK.len, hlen] at hj; exact hj))) (fun i j hi hj hij => hFd i j hi hj hij (hallf i (hFn' i hi)) (hallf j (hFn' j hj)))
  | succ f ih =>
    intro L listed U w hnd hL hmem inv hC hR hFb hFd
    have hne : L ≠ [] := fun h => by subst h; simp at hL
    obtain ⟨i0, hi0⟩ := List.exists_mem_of_ne_nil L hne
    obtain ⟨hi0n, hi0u⟩ := (hmem i0).1 hi0
    -- the least one that is not listed may come up
    have hready : Region.ready .any ops listed ≠ [] := by
      have key : ∀ (d i : Nat), i ≤ d → i < n → listed.getD i true = false → Region.ready .any ops listed ≠ [] := by
        intro d
        induction d with
        | zero =>
          intro i hid hin hiu
          have hi : i = 0 := by omega
          subst hi
          have hlt : 0 < ops.size := by omega
          intro h
          have : 0 ∈ Region.ready .any ops listed := mem_ready.2 ⟨hiu, ops[0], by simp [hlt], fun e he hb => absurd (backB_spec hback (i := 0) (by simp [hlt]) e he hb) (by omega)⟩
          rw [h] at this; cases this
        | succ d ihd =>
          intro i hid hin hiu
          have hlt : i < ops.size := by omega
          by_cases hex : ∃ e ∈ ops[i].after, Region.binds .any e = true ∧ listed.getD e.on false = false
          · obtain ⟨e, he, hb, hu⟩ := hex
            have hlt2 := backB_spec hback (i := i) (by simp [hlt]) e he hb
            exact ihd e.on (by omega) (by omega) (getD_in (by rw [inv.size]; omega) hu)
          · intro h
            have : i ∈ Region.ready .any ops listed := mem_ready.2 ⟨hiu, ops[i], by simp [hlt], fun e he hb => by
              cases h' : listed.getD e.on false with
              | true => rfl
              | false => exact absurd ⟨e, he, hb, h'⟩ hex⟩
            rw [h] at this; cases this
      exact key i0 i0 (Nat.le_refl _) hi0n hi0u
    rw [show f + 1 + (ops.size - n) = (f + (ops.size - n)) + 1 by omega]
    refine ⟨fun h => absurd h hready, fun i hi => ?_⟩
    obtain ⟨hiu, o, ho, hall⟩ := mem_ready.1 hi
    have hin : i < n := by
      rcases Nat.lt_or_ge i n with h | h
      · exact h
      · exact absurd hi (tail_waits hs hc hn inv _ i0 rfl hi0n hi0u i h)
    have hio : (l.take n)[i]? = some o := by
      subst hops
      rw [List.getElem?_take_of_lt hin]
      simpa using ho
    have hp : ∀ p ∈ predsOf o, p < n ∧ listed.getD p false = true := fun p hp => by
      obtain ⟨e, he, hb, rfl⟩ := of_mem_predsOf hp
      have := backB_spec hback ho e he hb
      exact ⟨by omega, hall e he hb⟩
    have hstep := hOK.step i o hio _ U w (getD_both hiu) hC (hypsU_of _ fun p hpp => hR p (hp p hpp).1 (hp p hpp).2)
    refine wpOp_of_list_inv ho (fillPuts_defers _ _ _ _) (fun v w' hT hG => ?_) hstep
    have hC' := hCT i _ w w' (getD_both hiu) hC hT
    have hDe : (fun j => if j = i then true else listed.getD j false) = fun k => (listed.setIfInBounds i true).getD k false := by
      funext j
      by_cases e : i = j
      · subst e
        have hsz : i < listed.size := by rw [inv.size]; omega
        simp [hsz]
      · rw [if_neg (fun h => e h.symm), getD_set_ne false e]
    rw [hDe] at hC'
    rw [← put_slot, fillPuts_put (l.take n) U 0 i o _ a0 (by subst hops; simpa using hdist) hio, Nat.zero_add]
    refine ih (L.erase i) (listed.setIfInBounds i true) _ w' (hnd.erase i) (by rw [List.length_erase_of_mem ((hmem i).2 ⟨hin, hiu⟩), hL]; rfl) (fun j => ?_) (inv.set hi hin) hC' (fun j hj hjl => ?_) ?_ ?_
    · rw [hnd.mem_erase_iff, hmem j]
      by_cases e : i = j
      · subst e
        constructor
        · rintro ⟨h, _⟩; exact absurd rfl h
        · rintro ⟨_, h⟩
          have hsz : i < listed.size := by rw [inv.size]; omega
          simp [hsz] at h
      · rw [getD_set_ne true e]
        constructor
        · rintro ⟨_, h⟩; exact h
        · intro h; exact ⟨fun h' => e h'.symm, h⟩
    · by_cases e : i = j
      · subst e; exact hG.1
      · rw [getD_set_ne false e] at hjl
        have hj1 := hOK.stay i j _ U w w' e (getD_both hiu) hC hT (hR j hj hjl)
        have hjs : j < ops.size := by omega
        obtain ⟨oj, hoj⟩ : ∃ oj, ops[j]? = some oj := ⟨ops[j], by simp [hjs]⟩
        have hjo : (l.take n)[j]? = some oj := by
          subst hops
          rw [List.getElem?_take_of_lt hj]
          simpa using hoj
        have hni : (j :: predsOf oj).contains i = false := by
          rw [Bool.eq_false_iff]
          intro h
          rcases List.mem_cons.1 (List.contains_iff_mem.1 h) with h | h
          · exact e h
          · obtain ⟨e', he', hb', rfl⟩ := of_mem_predsOf h
            have := inv.closed j oj hoj hjl e' he' hb'
            rw [getD_both hiu] at this
            cases this
        rw [hOK.loc j oj hjo, maskU_upd hni, ← hOK.loc j oj hjo]
        exact hj1
    · intro j hj hjl
      by_cases e : i = j
      · subst e
        obtain ⟨p, hp1, _, hp2⟩ := hG.2 hj
        exact ⟨p, by rw [updU_eq]; exact hp1, hp2⟩
      · rw [getD_set_ne false e] at hjl
        obtain ⟨p, hp1, hp2⟩ := hFb j hj hjl
        refine ⟨p, ?_, Nat.lt_of_lt_of_le hp2 (hTs _ _ _ hT)⟩
        have : updU U i (slotOf (fillPuts (l.take n) U 0 a0 |>.put o.dst v) o.dst) j = U j := by unfold updU; rw [if_neg (fun h => e h.symm)]
        rw [this]; exact hp1
    · intro j k hj hk hjk hjl hkl
      have old : ∀ q, i ≠ q → updU U i (slotOf (fillPuts (l.take n) U 0 a0 |>.put o.dst v) o.dst) q = U q := fun q e => by unfold updU; rw [if_neg (fun h => e h.symm)]
      by_cases e : i = j
      · subst e
        have e2 : i ≠ k := hjk
        rw [getD_set_ne false e2] at hkl
        obtain ⟨p, hp1, hp2, _⟩ := hG.2 hj
        obtain ⟨q, hq1, hq2⟩ := hFb k hk hkl
        rw [updU_eq, old k e2, hp1, hq1]
        intro h
        have := Option.some.inj h
        omega
      · rw [getD_set_ne false e] at hjl
        by_cases e2 : i = k
        · subst e2
          obtain ⟨p, hp1, hp2, _⟩ := hG.2 hk
          obtain ⟨q, hq1, hq2⟩ := hFb j hj hjl
          rw [updU_eq, old j e, hp1, hq1]
          intro h
          have := Option.some.inj h
          omega
        · rw [getD_set_ne false e2] at hkl
          rw [old j e, old k e2]
          exact hFd j k hj hk hjk hjl hkl
/-- An operation whose value hangs on the values ahead of it alone. -/
theorem wpInv_det {F : List Nat} {C : (Nat → Bool) → World → Prop} {T : Nat → World → World → Prop} {hd : List Oper} {a0 : Act} {fin : (Nat → Value) → World → Prop} {i : Nat} {Rs : List RelU} {o : Oper} {rest : List Oper} (hp : (predsOf o).contains i = false) (hF : F.contains i = false)
    (h : ∃ f : (Nat → Value) → Value, (∀ D U w, D i = false → C D w → HypsU Rs U w (predsOf o) → wpList P ops (InvPost (T i) a0.defers w o.dst fun v _ => v = f U) [o] (fillPuts hd U 0 a0) w) ∧
      (∀ U, f U = f (maskU (predsOf o) U)) ∧ wpInv P ops F C T hd a0 fin (i + 1) (Rs ++ [fun U _ => U i = f U]) rest) : wpInv P ops F C T hd a0 fin i Rs (o :: rest) := by
  obtain ⟨f, h1, h2, h3⟩ := h
  have e1 : ∀ U, maskU (predsOf o) (maskU (i :: predsOf o) U) = maskU (predsOf o) U := fun U => by
    funext j
    unfold maskU
    by_cases hj : (predsOf o).contains j = true
    · rw [if_pos hj, if_pos hj, if_pos (by simp at hj ⊢; exact .inr hj)]
    · rw [if_neg hj, if_neg hj]
  refine ⟨fun U _ => U i = f U, fun U w => ?_, fun _ _ _ _ _ _ _ _ _ h => h, fun D U w hDi hC hH => ?_, h3⟩
  · have e2 : maskU (i :: predsOf o) U i = U i := by unfold maskU; rw [if_pos (by simp)]
    have e3 : f (maskU (i :: predsOf o) U) = f U := by rw [h2, e1, ← h2]
    show (U i = f U) = (maskU (i :: predsOf o) U i = f (maskU (i :: predsOf o) U))
    rw [e2, e3]
  · refine wpList_post (T := T i) (fun a' w' hq => ?_) (h1 D U w hDi hC hH)
    refine ⟨hq.1, hq.2.1, hq.2.2.1, ?_, fun h => by rw [hF] at h; cases h⟩
    have hq4 := hq.2.2.2
    show updU U i (slotOf a' o.dst) i = f (updU U i (slotOf a' o.dst))
    rw [updU_eq, hq4, h2 (updU U i (f U)), maskU_upd hp, ← h2]
theorem wp_region_inv {id : Nat} {Q : Exit → Act → World → Prop} {a : Act} {w : World} {l : List Oper} (F : List Nat) (C : (Nat → Bool) → World → Prop) (T : Nat → World → World → Prop) (n : Nat) (hm : P.follows .mixedOrders = true) (hB : invB l.toArray n = true)
    (hFn : F.all (fun i => decide (i < n)) = true) (hC : C (fun _ => false) w.drew) (hCT : ∀ k D w w', D k = false → C D w → T k w w' → C (fun j => if j = k then true else D j) w') (hTs : ∀ k w w', T k w w' → w.heap.size ≤ w'.heap.size)
    (h : wpInv P l.toArray F C T (l.take n) a (fun U w => wpList P l.toArray Q (l.drop n) (fillPuts (l.take n) U 0 a) w) 0 [] (l.take n)) : (Code.region id l.toArray true).wp P Q a w := by
  refine wp_region_any hm ?_
  have hB' := hB
  simp only [invB, Bool.and_eq_true, decide_eq_true_eq] at hB'
  obtain ⟨⟨⟨⟨⟨hn, hs⟩, hc⟩, hback⟩, hdist⟩, hseq⟩ := hB'
  have hn' : n < l.length := by simpa using hn
  obtain ⟨Rs, hOK, hfin⟩ := wpInv_ok (P := P) (hd := l.take n) (fun j o hj p hp => by
    obtain ⟨e, he, hb, rfl⟩ := of_mem_predsOf hp
    have hjn : j < n := by have := (List.getElem?_eq_some_iff.1 hj).1; simp at this; omega
    rw [List.getElem?_take_of_lt hjn] at hj
    exact backB_spec hback (i := j) (by simpa using hj) e he hb) (l.take n) 0 [] rfl rfl (by omega) (fun j o hj => absurd hj (by omega)) (fun k j D U w w' hj => absurd hj (by omega)) (fun j o hj => absurd hj (by omega)) h
  obtain ⟨U, hU⟩ := fillPuts_start (l.take n) 0 a
  have := wpAny_of_inv (P := P) (Q := Q) rfl hB hCT hTs hFn hOK (fun D U w hD => hfin D U w (fun k hk => hD k (by simp at hk; omega))) n (List.range n) (Array.replicate l.toArray.size false) U { w with drawn := w.drawn + 1 } List.nodup_range (by simp) (fun j => by
      rw [List.mem_range]
      constructor
      · intro hj
        exact ⟨hj, getD_in (by simp; omega) (getD_replicate_false _ _)⟩
      · exact fun h => h.1)
    ⟨by simp, fun j oj _ hl => (by rw [getD_replicate_false] at hl; cases hl), fun t _ ht => getD_in (by simpa using ht) (getD_replicate_false _ _)⟩ (by
      have e : (fun k => (Array.replicate l.toArray.size false).getD k false) = fun _ => false := funext fun k => getD_replicate_false _ _
      rw [e]; exact hC) (fun j _ hl => by rw [getD_replicate_false] at hl; cases hl) (fun j _ hl => by rw [getD_replicate_false] at hl; cases hl) (fun i j _ _ _ hl => by rw [getD_replicate_false] at hl; cases hl)
  rw [hU] at this
  have e : n + (l.toArray.size - n) = l.toArray.size := by omega
  rwa [e] at this
end
end Go.RI
end

section
namespace Go
open Go.RowKit
set_option linter.unusedSimpArgs false
/-- A cell of a kind, within its bounds. -/
def Leaf.fitsW : Leaf → Value → Bool
  | .int k, .int k' n => decide (k = k') && (Lit.int k n).wf
  | .bool, .bool _ => true
  | _, _ => false
def fitAllW : List Leaf → List Value → Bool
  | [], [] => true
  | l :: ls, x :: xs => l.fitsW x && fitAllW ls xs
  | _, _ => false
theorem fitAllW_append : ∀ {ls ms : List Leaf} {xs ys : List Value}, fitAllW ls xs = true → fitAllW ms ys = true → fitAllW (ls ++ ms) (xs ++ ys) = true
  | [], ms, [], ys, _, h2 => by simpa using h2
  | l :: ls, ms, x :: xs, ys, h1, h2 => by
    simp only [fitAllW, Bool.and_eq_true] at h1
    simp only [List.cons_append, fitAllW, Bool.and_eq_true]
    exact ⟨h1.1, fitAllW_append h1.2 h2⟩
theorem fitAllW_length : ∀ {ls : List Leaf} {xs : List Value}, fitAllW ls xs = true → xs.length = ls.length
  | [], [], _ => rfl
  | _ :: ls, _ :: xs, h => by
    simp only [fitAllW, Bool.and_eq_true] at h
    simp [fitAllW_length h.2]
theorem fitAllW_at : ∀ {ls : List Leaf} {xs : List Value} (i : Nat) (k : IntKind), fitAllW ls xs = true → ls[i]? = some (.int k) → ∃ n, xs[i]? = some (.int k n) ∧ (Lit.int k n).wf = true
  | l :: ls, x :: xs, 0, k, h, hi => by
    obtain rfl : l = .int k := by simpa using hi
    simp only [fitAllW, Bool.and_eq_true] at h
    have h1 := h.1
    cases x with
    | int k' n =>
      simp only [Leaf.fitsW, Bool.and_eq_true, decide_eq_true_eq] at h1
      obtain ⟨rfl, hw⟩ := h1
      exact ⟨n, rfl, hw⟩
    | _ => exact absurd h1 (by simp [Leaf.fitsW])
  | l :: ls, x :: xs, i + 1, k, h, hi => by
    simp only [fitAllW, Bool.and_eq_true] at h
    simpa using fitAllW_at i k h.2 (by simpa using hi)
theorem layout_cells {P : Program} {d : Nat} {t : TypeId} {ls : List Leaf} (h : layout P d t = some ls) : P.cellsOf t = ls.length := by
  obtain ⟨i, h1, h2⟩ := layout_info h
  simp [Program.cellsOf, h1, h2]
section
variable {H : Type} {enc : TypeId × Value → H} {P : Program} {w : World} {base : Nat} {spare : Nat → Bool} {held : Bool}
theorem fields_flat {d n : Nat} (IH : ∀ (t : TypeId) (ls : List Leaf) (cs : List Value) (x : DataW H × List MemPlace), layout P d t = some ls → DataW.trod enc P w base spare held n t cs = some x → fitAllW ls cs = true) (cs : List Value) :
    ∀ (fs : List Field) (ls : List (List Leaf)) (xs : List (DataW H × List MemPlace)) (o : Nat), fs.mapM (fun f => layout P d f.type) = some ls → offsOk fs ls o = true → xs.length = fs.length →
      (∀ (i : Nat) (f : Field), fs[i]? = some f → DataW.trod enc P w base spare held n f.type ((cs.drop f.offset).take (P.cellsOf f.type)) = xs[i]?) → fitAllW ls.flatten ((cs.drop o).take ls.flatten.length) = true
  | [], ls, xs, o, h, _, _, _ => by
    simp at h
    subst h
    simp [fitAllW]
  | f :: fs, ls, xs, o, h, ho, hl, hx => by
    rw [List.mapM_cons] at h
    obtain ⟨l, h1, h2⟩ := Option.bind_eq_some_iff.1 h
    obtain ⟨ls', h3, h4⟩ := Option.bind_eq_some_iff.1 h2
    obtain rfl : l :: ls' = ls := by simpa using h4
    simp only [offsOk, Bool.and_eq_true, beq_iff_eq] at ho
    obtain ⟨⟨_, rfl⟩, ho⟩ := ho
    match xs, hl with
    | x :: xs, hl =>
      have hx0 := hx 0 f rfl
      simp only [List.getElem?_cons_zero] at hx0
      rw [layout_cells h1] at hx0
      have a1 := IH _ _ _ _ h1 hx0
      have a2 := fields_flat IH cs fs ls' xs (f.offset + l.length) h3 ho (by simpa using hl) (fun i g hg => by simpa using hx (i + 1) g (by simpa using hg))
      have e : (cs.drop f.offset).take (l :: ls').flatten.length = (cs.drop f.offset).take l.length ++ (cs.drop (f.offset + l.length)).take ls'.flatten.length := by
        rw [List.flatten_cons, List.length_append, List.take_add, List.drop_drop]
      rw [e, List.flatten_cons]
      exact fitAllW_append a1 a2
theorem items_flat {l : List Leaf} (cs : List Value) : ∀ (n o : Nat), (∀ i, i < n → fitAllW l ((cs.drop (o + i * l.length)).take l.length) = true) → fitAllW (List.replicate n l).flatten ((cs.drop o).take (List.replicate n l).flatten.length) = true
  | 0, _, _ => by simp [fitAllW]
  | n + 1, o, h => by
    have a1 := h 0 (by omega)
    have a2 := items_flat cs n (o + l.length) (fun i hi => by
      have := h (i + 1) (by omega)
      rwa [show o + (i + 1) * l.length = o + l.length + i * l.length by rw [Nat.add_mul]; omega] at this)
    simp only [Nat.zero_mul, Nat.add_zero] at a1
    have e : (cs.drop o).take (List.replicate (n + 1) l).flatten.length = (cs.drop o).take l.length ++ (cs.drop (o + l.length)).take (List.replicate n l).flatten.length := by
      rw [List.replicate_succ, List.flatten_cons, List.length_append, List.take_add, List.drop_drop]
    rw [e, List.replicate_succ, List.flatten_cons]
    exact fitAllW_append a1 a2
theorem flat_of_trod : ∀ (d n : Nat) (t : TypeId) (ls : List Leaf) (cs : List Value) (x : DataW H × List MemPlace), layout P d t = some ls → DataW.trod enc P w base spare held n t cs = some x → fitAllW ls cs = true
  | 0, _, _, _, _, _, h, _ => by simp [layout] at h
  | d + 1, n, t, ls, cs, x, h, ht => by
    have hcells := layout_cells h
    unfold layout at h
    split at h
    · rename_i hu
      split at h
      · obtain rfl : [Leaf.bool] = ls := by simpa using h
        cases n with
        | zero => simp [DataW.trod] at ht
        | succ n =>
          unfold DataW.trod at ht
          rw [hu] at ht
          split at ht <;> simp_all [fitAllW, Leaf.fitsW]
      · cases h
    · rename_i k hu
      split at h
      · obtain rfl : [Leaf.int k] = ls := by simpa using h
        obtain ⟨m, rfl, _, hw⟩ := DataW.trod_int hu ht
        simp [fitAllW, Leaf.fitsW, hw]
      · cases h
    · rename_i m e hu
      obtain ⟨l, h1, h2⟩ := Option.bind_eq_some_iff.1 h
      split at h2
      · obtain rfl : (List.replicate m l).flatten = ls := by simpa using h2
        obtain ⟨xs, n', rfl, rfl, hl, hlen, hx⟩ := DataW.trod_array hu ht
        rw [hcells] at hl
        have := items_flat (l := l) cs m 0 (fun i hi => by
          have h3 := hx i hi
          rw [layout_cells h1, List.getElem?_eq_getElem (by omega)] at h3
          rw [Nat.zero_add]
          exact flat_of_trod d n' e l _ _ h1 h3)
        rw [List.drop_zero, ← hl, List.take_length] at this
        exact this
      · cases h2
    · rename_i fs hu
      obtain ⟨ls', h1, h2⟩ := Option.bind_eq_some_iff.1 h
      split at h2
      · rename_i hc
        obtain rfl : ls'.flatten = ls := by simpa using h2
        simp only [Bool.and_eq_true] at hc
        obtain ⟨xs, n', rfl, rfl, hl, hlen, hx⟩ := DataW.trod_struct hu ht
        rw [hcells] at hl
        have := fields_flat (fun t ls cs x => flat_of_trod d n' t ls cs x) cs fs.toList ls' xs 0 h1 hc.1.2 (by simpa using hlen) (fun i f hf => by
          rw [hx i f (by simpa using hf)])
        rw [List.drop_zero, ← hl, List.take_length] at this
        exact this
      · cases h2
    · cases h
/-- A flat struct or array that came in: its cells. -/
theorem open_flat {r : Reach} {b0 : Nat} {t : TypeId} {v : Value} {dd : DataW H} {p : List MemPlace} (d : Nat) (ls : List Leaf) (hl : layout P d t = some ls) (ha : isAggB P t = true)
    (hv : Value.okWide P w r b0 t v) (h : DataW.Trod enc P w base spare held t v dd p) : ∃ cs : List Value, v = .agg cs.toArray ∧ fitAllW ls cs = true := by
  obtain ⟨fuel, hf⟩ := h
  have hcs : ∃ cs, v = .agg cs := by
    unfold isAggB at ha
    unfold Value.okWide at hv
    split at ha <;> simp_all
    · obtain ⟨cs, h, _⟩ := hv; exact ⟨cs, h⟩
    · obtain ⟨cs, h, _⟩ := hv; exact ⟨cs, h⟩
  obtain ⟨cs, rfl⟩ := hcs
  refine ⟨cs.toList, by simp, ?_⟩
  exact flat_of_trod d fuel t ls _ _ hl (by simpa [Value.cells] using hf)
end
end Go
end

section
namespace Go.Proofs.YtcibajleknhklaaDoor
theorem wf_u8 {n : Int} (h : (Lit.int .u8 n).wf = true) : 0 ≤ n ∧ n ≤ 255 := by
  simpa [Lit.wf, IntKind.min, IntKind.max, IntKind.signed, IntKind.bits] using h
theorem wf_i32 {n : Int} (h : (Lit.int .i32 n).wf = true) : -2147483648 ≤ n ∧ n ≤ 2147483647 := by
  simpa [Lit.wf, IntKind.min, IntKind.max, IntKind.signed, IntKind.bits] using h
end Go.Proofs.YtcibajleknhklaaDoor
end

section
section
namespace Go
open Go.RowKit
/-- What follows is shown of every world of which this is known. -/
theorem cut_world {P : Program} {c : Code} {Q : Exit → Act → World → Prop} {a : Act} {w : World} (F : World → Prop) (hF : F w) (h : ∀ W, F W → c.wp P Q a W) : c.wp P Q a w := h w hF
end Go
end
section
namespace Go
open Go.RowKit
/-- A block whose cells are all known. -/
theorem block_facts {w : World} {p : Nat} {cs : Array Value} {T : TypeId} (h : w.heap[p]? = some (.cells cs T (0, 0))) : (∀ i, w.cell? ⟨p, i, none⟩ = cs[i]?) ∧ (∀ i, w.frozen? ⟨p, i, none⟩ = false) ∧ p < w.heap.size :=
  ⟨fun i => by simp [World.cell?, h], fun i => by simp [World.frozen?, h], (Array.getElem?_eq_some_iff.1 h).1⟩
end Go
end
section
namespace Go
open Go.RowKit
theorem setCell_own (w : World) (K i : Nat) (cs : Array Value) (T : TypeId) (f : Nat × Nat) (v : Value) (h : w.heap[K]? = some (.cells cs T f)) : (w.setCell ⟨K, i, none⟩ v).heap[K]? = some (.cells (cs.setIfInBounds i v) T f) := by
  show (w.heap.modify K _)[K]? = _
  rw [Array.getElem?_modify, if_pos rfl, h]
  rfl
end Go
end
section
namespace Go.Proofs.YtcibajleknhklaaDoor
open Go.RowKit Go.BigFrame Go.Proofs.YtcibajleknhklaaDoorW.PrintWords Go.Proofs.YtcibajleknhklaaDoorW.PrintLast Go.Proofs.YtcibajleknhklaaDoorW.PrintMore
set_option linter.unusedSimpArgs false
set_option linter.unusedVariables false
theorem own_form {w : World} {base : Nat} {e : TypeId} {size n : Nat} {v : Value} {xs : List Value} (h : w.ownsRow base e size v n xs) (hn : 0 < n) : ∃ g c, v = .slice (some ⟨g, 0, none⟩) n c ∧ base ≤ g ∧ g < w.heap.size := by
  rcases h.2 with ⟨_, h0⟩ | ⟨g, cap, cur, hv, hg, hh, _⟩
  · omega
  · exact ⟨g, cap, hv, hg, (Array.getElem?_eq_some_iff.1 hh).1⟩
end Go.Proofs.YtcibajleknhklaaDoor
end
section
namespace Go.Proofs.YtcibajleknhklaaDoor
open Go.RowKit Go.BigFrame Go.Proofs.YtcibajleknhklaaDoorW.PrintWords Go.Proofs.YtcibajleknhklaaDoorW.PrintLast Go.Proofs.YtcibajleknhklaaDoorW.PrintMore
set_option linter.unusedSimpArgs false
set_option linter.unusedVariables false
theorem w64_id {x : Int} (h1 : -4611686018427387904 ≤ x) (h2 : x ≤ 4611686018427387904) : wrap64 x = x := by unfold wrap64; omega
end Go.Proofs.YtcibajleknhklaaDoor
end
section
namespace Go.Proofs.YtcibajleknhklaaDoor
open Go.RowKit Go.BigFrame Go.Proofs.YtcibajleknhklaaDoorW.PrintWords Go.Proofs.YtcibajleknhklaaDoorW.PrintLast Go.Proofs.YtcibajleknhklaaDoorW.PrintMore
set_option linter.unusedSimpArgs false
set_option linter.unusedVariables false
/-- N whole numbers, each of its own kind. -/
def ag (k : Nat → IntKind) (N : Nat) (st : Nat → Int) : Array Value := ((List.range N).map fun i => Value.int (k i) (st i)).toArray
def updI (st : Nat → Int) (i : Nat) (x : Int) : Nat → Int := fun j => if j = i then x else st j
theorem ag_size (k : Nat → IntKind) (N : Nat) (st : Nat → Int) : (ag k N st).size = N := by simp [ag]
theorem ag_get (k : Nat → IntKind) (N : Nat) (st : Nat → Int) (i : Nat) (h : i < N) : (ag k N st)[i]? = some (.int (k i) (st i)) := by
  simp [ag, h]
theorem ag_ext (k : Nat → IntKind) (N : Nat) (s t : Nat → Int) (h : ∀ i, i < N → s i = t i) : ag k N s = ag k N t := by
  unfold ag
  congr 1
  apply List.map_congr_left
  intro i hi
  rw [h i (by simpa using hi)]
end Go.Proofs.YtcibajleknhklaaDoor
end
section
namespace Go.Proofs.YtcibajleknhklaaDoor
open Go.RowKit Go.BigFrame Go.Proofs.YtcibajleknhklaaDoorW.PrintWords Go.Proofs.YtcibajleknhklaaDoorW.PrintLast Go.Proofs.YtcibajleknhklaaDoorW.PrintMore
set_option linter.unusedSimpArgs false
set_option linter.unusedVariables false
theorem ag_cell {w : World} {b N : Nat} {e : TypeId} {k : Nat → IntKind} {f : Nat → Int} (h : w.heap[b]? = some (.cells (ag k N f) e (0, 0))) (i : Nat) (hi : i < N) :
    w.cell? ⟨b, i, none⟩ = some (.int (k i) (f i)) := by rw [(block_facts h).1 i, ag_get _ _ _ _ hi]
end Go.Proofs.YtcibajleknhklaaDoor
end
section
namespace Go.Proofs.YtcibajleknhklaaDoor
open Go.RowKit Go.BigFrame Go.Proofs.YtcibajleknhklaaDoorW.PrintWords Go.Proofs.YtcibajleknhklaaDoorW.PrintLast Go.Proofs.YtcibajleknhklaaDoorW.PrintMore
set_option linter.unusedSimpArgs false
set_option linter.unusedVariables false
/-- One block has been written, no other one. -/
structure Only (B : Nat) (w w' : World) : Prop where
  os : w'.os = w.os
  tape : w'.tape = w.tape
  output : w'.output = w.output
  size : w'.heap.size = w.heap.size
  block : ∀ k, k ≠ B → w'.heap[k]? = w.heap[k]?
theorem Only.below {B C : Nat} {w0 w w' : World} (h : Only B w w') (hb : Below C w0 w) (hB : C ≤ B) : Below C w0 w' :=
  hb.trans ⟨h.os, h.tape, h.output, Nat.le_of_eq h.size.symm, fun k hk => h.block k (by omega)⟩
theorem Only.setCell {w w' : World} {p : Addr} (v : Value) (h : Only p.block w w') : Only p.block w (w'.setCell p v) :=
  ⟨h.os, h.tape, h.output, by rw [← h.size]; simp, fun k hk => (Below.heap_setCell w' p v k hk).trans (h.block k hk)⟩
theorem Only.refl (B : Nat) (w : World) : Only B w w := ⟨rfl, rfl, rfl, rfl, fun _ _ => rfl⟩
theorem Only.trans {B : Nat} {a b c : World} (h : Only B a b) (k : Only B b c) : Only B a c :=
  ⟨k.os.trans h.os, k.tape.trans h.tape, k.output.trans h.output, k.size.trans h.size, fun i hi => (k.block i hi).trans (h.block i hi)⟩
theorem only_setCell (w : World) (p : Addr) (v : Value) : Only p.block w (w.setCell p v) := (Only.refl _ w).setCell v
abbrev Bx (B : Nat) (T : TypeId) (k : Nat → IntKind) (N : Nat) (f : Nat → Int) (w : World) : Prop := w.heap[B]? = some (.cells (ag k N f) T (0, 0))
theorem Bx.keep {B T k N f} {w w' : World} (h : Bx B T k N f w) (hb : Below w.heap.size w w') : Bx B T k N f w' := (hb.block B (block_facts h).2.2).trans h
theorem Bx.only {B C T k N f} {w w' : World} (h : Bx B T k N f w) (ho : Only C w w') (hne : B ≠ C) : Bx B T k N f w' := (ho.block B hne).trans h
end Go.Proofs.YtcibajleknhklaaDoor
namespace Go
open Go.RowKit
/-- One step of a region: what stands is kept, but a block of type T0, made since V, may have come to hold X. -/
structure TT (V : World) (T0 : TypeId) (X : Array Value) (W W' : World) : Prop where
  below : Below V.heap.size W W'
  other : ∀ (k : Nat) (cs : Array Value) (T : TypeId) (f : Nat × Nat), T ≠ T0 → W.heap[k]? = some (.cells cs T f) → W'.heap[k]? = some (.cells cs T f)
  own : ∀ (k : Nat) (cs : Array Value) (f : Nat × Nat), W.heap[k]? = some (.cells cs T0 f) → W'.heap[k]? = some (.cells cs T0 f) ∨ W'.heap[k]? = some (.cells X T0 (0, 0))
theorem TT.of_below {V W W' : World} {T0 : TypeId} {X : Array Value} (hs : V.heap.size ≤ W.heap.size) (h : Below W.heap.size W W') : TT V T0 X W W' :=
  ⟨h.mono hs, fun k _ _ _ _ hk => (h.block k (Array.getElem?_eq_some_iff.1 hk).1).trans hk, fun k _ _ hk => .inl ((h.block k (Array.getElem?_eq_some_iff.1 hk).1).trans hk)⟩
end Go
end
section
namespace Go.Proofs.YtcibajleknhklaaDoor
open Go.RowKit Go.BigFrame Go.Proofs.YtcibajleknhklaaDoorW.PrintWords Go.Proofs.YtcibajleknhklaaDoorW.PrintLast Go.Proofs.YtcibajleknhklaaDoorW.PrintMore
set_option linter.unusedSimpArgs false
set_option linter.unusedVariables false
/-- A flat value that came in, as a function of the place. -/
theorem ag_of_fit (k : Nat → IntKind) (N : Nat) (cs : List Value) (h : fitAllW ((List.range N).map fun i => Leaf.int (k i)) cs = true) : ∃ st : Nat → Int, cs.toArray = ag k N st ∧ ∀ i, i < N → (Lit.int (k i) (st i)).wf = true := by
  have hl : cs.length = N := by have := fitAllW_length h; simpa using this
  have hat : ∀ i, i < N → ∃ n, cs[i]? = some (.int (k i) n) ∧ (Lit.int (k i) n).wf = true := fun i hi => fitAllW_at i (k i) h (by simp [hi])
  refine ⟨fun i => match cs[i]? with | some (.int _ n) => n | _ => 0, ?_, ?_⟩
  · apply Array.ext
    · simp [ag_size, hl]
    · intro i h1 h2
      have hi : i < N := by simpa [ag_size] using h2
      obtain ⟨n, hn, _⟩ := hat i hi
      have e1 : cs.toArray[i]? = some (.int (k i) n) := by simpa using hn
      have e2 := ag_get k N (fun i => match cs[i]? with | some (.int _ n) => n | _ => 0) i hi
      simp only [hn] at e2
      rw [Array.getElem?_eq_getElem h1] at e1
      rw [Array.getElem?_eq_getElem h2] at e2
      rw [Option.some.inj e1, Option.some.inj e2]
  · intro i hi
    obtain ⟨n, hn, hw⟩ := hat i hi
    simp only [hn]
    exact hw
end Go.Proofs.YtcibajleknhklaaDoor
end
end

section
set_option linter.unusedSimpArgs false
namespace Go.Proofs.YtcibajleknhklaaDoor
open Go.RowKit Go.BigFrame
/-- The high and the low word of a whole number, modulo 2^128. -/
def accHi (z : Int) : Int := wrap64 (z / 18446744073709551616)
def accLo (z : Int) : Int := z % 18446744073709551616
def accAgg (z : Int) : Value := .agg #[.int .i64 (accHi z), .int .u64 (accLo z)]
theorem accLo_bd (z : Int) : 0 ≤ accLo z ∧ accLo z ≤ 18446744073709551615 := by unfold accLo; omega
/-- Sum and carry of two low words. -/
def addSum (x y c : Int) : Int := (x + y + c) % 18446744073709551616
def addCar (x y c : Int) : Int := (x + y + c) / 18446744073709551616
def subDif (x y c : Int) : Int := (x - y - c) % 18446744073709551616
def subBor (x y c : Int) : Int := if x < y + c then 1 else 0
theorem add64_run (x y c : Int) (hx : 0 ≤ x) (hy : 0 ≤ y) (hc : 0 ≤ c ∧ c ≤ 1) (w : World) :
    (callFunc 134 #[.int .u64 x, .int .u64 y, .int .u64 c]).run Tryd.prog w = .ok (.value (.tuple #[.int .u64 (addSum x y c), .int .u64 (addCar x y c)])) w := by
  rw [run_callFunc_extern Tryd.func134 (by kernel_rfl) (by kernel_rfl) (by kernel_rfl) (e := add64Entry) (by kernel_rfl), run_add64 x y c hx hy hc.1 hc.2]
  rfl
theorem add_facts (x y : Int) : addSum (accLo x) (accLo y) 0 = accLo (x + y) ∧ (0 ≤ addCar (accLo x) (accLo y) 0 ∧ addCar (accLo x) (accLo y) 0 ≤ 1) ∧
    wrap64 (addSum (IntKind.u64.wrap (accHi x)) (IntKind.u64.wrap (accHi y)) (addCar (accLo x) (accLo y) 0)) = accHi (x + y) := by
  rw [IntKind.wrap_u64, IntKind.wrap_u64]
  unfold addSum addCar accLo accHi wrap64
  omega
theorem u64_nonneg (x : Int) : 0 ≤ IntKind.u64.wrap x := by rw [IntKind.wrap_u64]; omega
theorem plus_any (x y : Int) (w : World) :
    Calls Tryd.prog 109 #[accAgg x, accAgg y] w fun e w' => e = .returned (accAgg (x + y)) ∧ Below w.heap.size w w' := by
  unfold accAgg
  go_enter Tryd.func109, Tryd.ntmps109
  go_wp2_with (rw [add64_run _ _ _ ?_ ?_ ?_])
  · refine bodyPost_ret (v := _) (by simp [results, Tryd.results109, go_sem]; rfl) rfl ⟨?_, ?_⟩
    · rw [(add_facts x y).1, (add_facts x y).2.2]
    · (repeat' (first | (with_reducible exact Below.refl _ _) | (with_reducible assumption) | (with_reducible refine Below.alloc ?_ ?_ _) | (with_reducible refine below_grew ?_ ?_ _) | (with_reducible refine Below.setCell ?_ ?_ _) | (with_reducible refine Below.drew ?_) | (with_reducible refine below_drewN ?_ _) | omega | (simp; done) | (simp; omega)))
  · exact u64_nonneg _
  · exact u64_nonneg _
  · exact (add_facts x y).2.1
  · exact (accLo_bd x).1
  · exact (accLo_bd y).1
  · omega
theorem sub64_run (x y b : Int) (hx : 0 ≤ x ∧ x ≤ 18446744073709551615) (hy : 0 ≤ y ∧ y ≤ 18446744073709551615) (hb : 0 ≤ b ∧ b ≤ 1) (w : World) :
    (callFunc 135 #[.int .u64 x, .int .u64 y, .int .u64 b]).run Tryd.prog w = .ok (.value (.tuple #[.int .u64 (subDif x y b), .int .u64 (subBor x y b)])) w := by
  obtain ⟨X, rfl⟩ := Int.eq_ofNat_of_zero_le hx.1
  obtain ⟨Y, rfl⟩ := Int.eq_ofNat_of_zero_le hy.1
  obtain ⟨B, rfl⟩ := Int.eq_ofNat_of_zero_le hb.1
  rw [run_callFunc_extern Tryd.func135 (by kernel_rfl) (by kernel_rfl) (by kernel_rfl) (e := Go.Proofs.sub64Entry) (by kernel_rfl), Go.Proofs.run_sub64 X Y B (by omega)]
  have h1 : (((X + 18446744073709551616 - Y - B) % 18446744073709551616 : Nat) : Int) = ((X : Int) - Y - B) % 18446744073709551616 := by omega
  have h2 : ((if X < Y + B then 1 else 0 : Nat) : Int) = if (X : Int) < Y + B then 1 else 0 := by split <;> split <;> omega
  rw [h1, h2]
  rfl
theorem sub_facts (x y : Int) : subDif (accLo x) (accLo y) 0 = accLo (x - y) ∧ (0 ≤ subBor (accLo x) (accLo y) 0 ∧ subBor (accLo x) (accLo y) 0 ≤ 1) ∧
    wrap64 (subDif (IntKind.u64.wrap (accHi x)) (IntKind.u64.wrap (accHi y)) (subBor (accLo x) (accLo y) 0)) = accHi (x - y) := by
  rw [IntKind.wrap_u64, IntKind.wrap_u64]
  unfold subDif subBor accLo accHi wrap64
  split <;> omega
theorem u64_bd (x : Int) : 0 ≤ IntKind.u64.wrap x ∧ IntKind.u64.wrap x ≤ 18446744073709551615 := by rw [IntKind.wrap_u64]; omega
theorem minus_any (x y : Int) (w : World) :
    Calls Tryd.prog 111 #[accAgg x, accAgg y] w fun e w' => e = .returned (accAgg (x - y)) ∧ Below w.heap.size w w' := by
  unfold accAgg
  go_enter Tryd.func111, Tryd.ntmps111
  go_wp2_with (rw [sub64_run _ _ _ ?_ ?_ ?_])
  · refine bodyPost_ret (v := _) (by simp [results, Tryd.results111, go_sem]; rfl) rfl ⟨?_, ?_⟩
    · rw [(sub_facts x y).1, (sub_facts x y).2.2]
    · (repeat' (first | (with_reducible exact Below.refl _ _) | (with_reducible assumption) | (with_reducible refine Below.alloc ?_ ?_ _) | (with_reducible refine below_grew ?_ ?_ _) | (with_reducible refine Below.setCell ?_ ?_ _) | (with_reducible refine Below.drew ?_) | (with_reducible refine below_drewN ?_ _) | omega | (simp; done) | (simp; omega)))
  · exact u64_bd _
  · exact u64_bd _
  · exact (sub_facts x y).2.1
  · exact accLo_bd x
  · exact accLo_bd y
  · omega
theorem of_words (x : Int) (h : -9223372036854775808 ≤ x ∧ x ≤ 9223372036854775807) : x / 2 ^ 63 = accHi x ∧ IntKind.u64.wrap x = accLo x := by
  rw [IntKind.wrap_u64]
  have : (2 : Int) ^ 63 = 9223372036854775808 := by decide
  rw [this]
  unfold accHi accLo wrap64
  omega
/-- A number of 64 bits. -/
def In64 (x : Int) : Prop := -9223372036854775808 ≤ x ∧ x ≤ 9223372036854775807
theorem of_any (x : Int) (h : In64 x) (w : World) :
    Calls Tryd.prog 59 #[.int .i64 x] w fun e w' => e = .returned (accAgg x) ∧ Below w.heap.size w w' := by
  have E := Lib.hid (of_words x h)
  clear h
  unfold accAgg
  go_enter Tryd.func59, Tryd.ntmps59
  go_wp2
  refine bodyPost_ret (v := _) (by simp [results, Tryd.results59, go_sem]; rfl) rfl ⟨?_, ?_⟩
  · rw [← E.out.1, ← E.out.2]; rfl
  · (repeat' (first | (with_reducible exact Below.refl _ _) | (with_reducible assumption) | (with_reducible refine Below.alloc ?_ ?_ _) | (with_reducible refine below_grew ?_ ?_ _) | (with_reducible refine Below.setCell ?_ ?_ _) | (with_reducible refine Below.drew ?_) | (with_reducible refine below_drewN ?_ _) | omega | (simp; done) | (simp; omega)))
theorem len_any (x : Int) (w : World) (h0 : 0 ≤ x) (h1 : x ≤ 18446744073709551615) :
    Calls Tryd.prog 63 #[.int .u64 x] w fun e w' => e = .returned (.int .i64 (Lib.bitLen x.toNat)) ∧ w = w' := (Tryd.bits_Len x w h0 h1).mono fun _ _ ⟨a, b⟩ => ⟨a, b.symm⟩
/-- High and low word of a product of two words. -/
def mulHi (x y : Int) : Int := x * y / 18446744073709551616
def mulLo (x y : Int) : Int := x * y % 18446744073709551616
theorem mul64_run (x y : Int) (hx : 0 ≤ x ∧ x ≤ 18446744073709551615) (hy : 0 ≤ y ∧ y ≤ 18446744073709551615) (w : World) :
    Calls Tryd.prog 145 #[.int .u64 x, .int .u64 y] w fun e w' => e = .returned (.tuple #[.int .u64 (mulHi x y), .int .u64 (mulLo x y)]) ∧ w = w' := by
  obtain ⟨X, rfl⟩ := Int.eq_ofNat_of_zero_le hx.1
  obtain ⟨Y, rfl⟩ := Int.eq_ofNat_of_zero_le hy.1
  refine (Tryd.bits_Mul64 X Y (by omega) (by omega) w).mono fun e w' ⟨he, hw⟩ => ⟨?_, hw.symm⟩
  rw [he]
  unfold mulHi mulLo
  simp
/-- The high word of a product by a number with a sign. -/
def hiTimes (x n : Int) : Int := IntKind.u64.wrap (mulHi (accLo x) (IntKind.u64.wrap n) + IntKind.u64.wrap (IntKind.u64.wrap (accHi x) * IntKind.u64.wrap n))
theorem split_words (x : Int) : ∃ k, x = accHi x * 18446744073709551616 + accLo x + k * 340282366920938463463374607431768211456 := by
  refine ⟨(x / 18446744073709551616 - accHi x) / 18446744073709551616, ?_⟩
  unfold accHi accLo wrap64
  omega
theorem times_facts (x n : Int) (h : In64 n) : mulLo (accLo x) (IntKind.u64.wrap n) = accLo (x * n) ∧
    (0 ≤ n → wrap64 (hiTimes x n) = accHi (x * n)) ∧ (n < 0 → wrap64 (IntKind.u64.wrap (hiTimes x n - accLo x)) = accHi (x * n)) := by
  obtain ⟨k, hk⟩ := split_words x
  unfold hiTimes
  have hl := accLo_bd x
  unfold In64 at h
  have hx : accHi x * n = accHi x * n := rfl
  generalize accHi x = H at *
  generalize hL : accLo x = L at *
  -- the product, by words
  have e1 : x * n = H * n * 18446744073709551616 + L * n + k * n * 340282366920938463463374607431768211456 := by
    rw [hk]; grind
  have wn : ∃ t : Int, (t = 0 ∨ t = 1) ∧ (0 ≤ n → t = 0) ∧ (n < 0 → t = 1) ∧ IntKind.u64.wrap n = n + t * 18446744073709551616 := by
    rw [IntKind.wrap_u64]
    by_cases hn : 0 ≤ n
    · exact ⟨0, .inl rfl, fun _ => rfl, fun h' => by omega, by omega⟩
    · exact ⟨1, .inr rfl, fun h' => by omega, fun _ => rfl, by omega⟩
  obtain ⟨t, ht, ht0, ht1, hw⟩ := wn
  have wH : ∃ u : Int, IntKind.u64.wrap H = H + u * 18446744073709551616 := by
    rw [IntKind.wrap_u64]
    exact ⟨-(H / 18446744073709551616), by omega⟩
  obtain ⟨u, hu⟩ := wH
  rw [hw, hu, e1]
  have e2 : L * (n + t * 18446744073709551616) = L * n + L * t * 18446744073709551616 := by grind
  have e3 : (H + u * 18446744073709551616) * (n + t * 18446744073709551616) = H * n + (H * t + u * n + u * t * 18446744073709551616) * 18446744073709551616 := by grind
  unfold mulLo mulHi
  rw [e2, e3]
  simp only [IntKind.wrap_u64]
  generalize H * n = p at *
  generalize L * n = q at *
  generalize k * n = r at *
  generalize H * t + u * n + u * t * 18446744073709551616 = v at *
  rcases ht with rfl | rfl
  · simp only [Int.mul_zero, Int.zero_mul, Int.add_zero]
    unfold accHi accLo wrap64
    refine ⟨by omega, fun _ => by omega, fun h' => by have := ht1 h'; omega⟩
  · simp only [Int.mul_one]
    unfold accHi accLo wrap64
    refine ⟨by omega, fun h' => by have := ht0 h'; omega, fun _ => by omega⟩
end Go.Proofs.YtcibajleknhklaaDoor
end

section
namespace Go.Proofs.YtcibajleknhklaaDoor
open Go.RowKit Go.BigFrame
set_option linter.unusedSimpArgs false
def cosL : List Int := [4096, 4095, 4091, 4085, 4076, 4065, 4052, 4036, 4017, 3996, 3973, 3948, 3920, 3889, 3857, 3822, 3784, 3745, 3703, 3659, 3612, 3564, 3513, 3461, 3406, 3349, 3290, 3229, 3166, 3102, 3035, 2967, 2896, 2824, 2751, 2675, 2598, 2520, 2440, 2359, 2276, 2191, 2106, 2019, 1931, 1842, 1751, 1660, 1567, 1474, 1380, 1285, 1189, 1092, 995, 897, 799, 700, 601, 501, 401, 301, 201, 101, 0]
def cosAt (j : Int) : Int := cosL.getD j.toNat 0
theorem cosAt_bd (j : Int) : 0 ≤ cosAt j ∧ cosAt j ≤ 4096 := by
  unfold cosAt
  have h : ∀ n : Nat, n < 65 → 0 ≤ cosL.getD n 0 ∧ cosL.getD n 0 ≤ 4096 := by decide
  by_cases hn : j.toNat < 65
  · exact h _ hn
  · rw [List.getD_eq_getElem?_getD, List.getElem?_eq_none (by show 65 ≤ j.toNat; omega)]; simp
/-- The cosine of a part of a turn, from 0 to 255. -/
def cosM (m : Int) : Int := if m ≤ 64 then cosAt m else if m ≤ 128 then -cosAt (128 - m) else if m < 192 then -cosAt (m - 128) else cosAt (256 - m)
def cosF (j : Int) : Int := cosM (j % 256)
theorem cosF_bd (j : Int) : -4096 ≤ cosF j ∧ cosF j ≤ 4096 := by
  unfold cosF cosM
  have h1 := cosAt_bd (j % 256)
  have h2 := cosAt_bd (128 - j % 256)
  have h3 := cosAt_bd (j % 256 - 128)
  have h4 := cosAt_bd (256 - j % 256)
  split
  · omega
  · split
    · omega
    · split <;> omega
abbrev CosW (w : World) : Prop := TabW 0 65 .i64 cosL w
theorem CosW.at {w : World} (h : CosW w) (j : Int) (h0 : 0 ≤ j) (h1 : j ≤ 64) : w.cell? ⟨0, j.toNat, none⟩ = some (.int .i64 (cosAt j)) := h.2 j.toNat (by omega)
theorem cosine_any (j : Int) (w : World) (hT : CosW w) :
    Calls Tryd.prog 98 #[.int .i64 j] w fun e w' => e = .returned (.int .i64 (cosF j)) ∧ w = w' := by
  have hc := fun i h0 h1 => hT.at i h0 h1
  have hm := i64_and255 j
  have h0 : 0 ≤ j % 256 := by omega
  have h1 : j % 256 ≤ 255 := by omega
  unfold cosF
  generalize j % 256 = m at *
  have hb : ∀ i, wrap64 (-cosAt i) = -cosAt i := fun i => IntWalk.wrap64_in _ (by have := cosAt_bd i; omega)
  by_cases t1 : m ≤ 64
  · have E := Lib.hid (show cosM m = cosAt m from by unfold cosM; rw [if_pos t1])
    have hc := hc (m) h0 t1
    go_enter Tryd.func98, Tryd.ntmps98
    go_wp2
    go_ret
    exact ⟨ret_int (by rw [E.out]), rfl⟩
  · skip
    by_cases t2 : m ≤ 128
    · have E := Lib.hid (show cosM m = -cosAt (128 - m) from by unfold cosM; rw [if_neg t1, if_pos t2])
      have hc := hc (128 - m) (by omega) (by omega)
      go_enter Tryd.func98, Tryd.ntmps98
      go_wp2
      go_ret
      exact ⟨ret_int (by rw [E.out]), rfl⟩
    · skip
      by_cases t3 : m < 192
      · have E := Lib.hid (show cosM m = -cosAt (128 - (256 - m)) from by unfold cosM; rw [if_neg t1, if_neg t2, if_pos t3, show m - 128 = 128 - (256 - m) from by omega])
        have hc := hc (m - 128) (by omega) (by omega)
        rw [show m - 128 = 128 - (256 - m) from by omega] at hc
        go_enter Tryd.func98, Tryd.ntmps98
        go_wp2
        go_ret
        exact ⟨ret_int (by rw [E.out]), rfl⟩
      · skip
        have E := Lib.hid (show cosM m = cosAt (256 - m) from by unfold cosM; rw [if_neg t1, if_neg t2, if_neg t3])
        have hc := hc (256 - m) (by omega) (by omega)
        go_enter Tryd.func98, Tryd.ntmps98
        go_wp2
        go_ret
        exact ⟨ret_int (by rw [E.out]), rfl⟩
/-- A pair, as a value. -/
def pairAgg (p : Int × Int) : Value := .agg #[.int .i64 p.1, .int .i64 p.2]
def turnF (j : Int) : Int × Int := (cosF j, -cosF (j - 64))
theorem cosF_mod (j : Int) : cosF (j % 256) = cosF j := by unfold cosF; rw [Int.emod_emod_of_dvd j (Int.dvd_refl 256)]
theorem cosF_mod' (j : Int) : cosF (j % 256 - 64) = cosF (j - 64) := by unfold cosF; congr 1; omega
theorem turn_any (j : Int) (w : World) (hT : CosW w) :
    Calls Tryd.prog 61 #[.int .i64 j] w fun e w' => e = .returned (pairAgg (turnF j)) ∧ Below w.heap.size w w' := by
  have hm := i64_and255 j
  have b0 : 0 ≤ j % 256 := by omega
  have b1 : j % 256 ≤ 255 := by omega
  have e1 := cosF_mod j
  have e2 := cosF_mod' j
  have hn : wrap64 (-cosF (j - 64)) = -cosF (j - 64) := IntWalk.wrap64_in _ (by have := cosF_bd (j - 64); omega)
  generalize j % 256 = m at *
  have E1 := Lib.hid e1
  have E2 := Lib.hid e2
  have En := Lib.hid hn
  clear e1 e2 hn
  go_enter Tryd.func61, Tryd.ntmps61
  go_wp2_with (go_at_call 98; refine (cosine_any _ _ ?_).mono ?_; exact hT.below (by (repeat' (first | (with_reducible exact Below.refl _ _) | (with_reducible assumption) | (with_reducible refine Below.alloc ?_ ?_ _) | (with_reducible refine below_grew ?_ ?_ _) | (with_reducible refine Below.setCell ?_ ?_ _) | (with_reducible refine Below.drew ?_) | (with_reducible refine below_drewN ?_ _) | omega | (simp; done) | (simp; omega)))); rintro e w' ⟨rfl, rfl⟩)
  refine bodyPost_ret (v := _) (by simp [results, Tryd.results61, go_sem]; rfl) rfl ⟨?_, ?_⟩
  · rw [E1.out, E2.out, En.out]; rfl
  · (repeat' (first | (with_reducible exact Below.refl _ _) | (with_reducible assumption) | (with_reducible refine Below.alloc ?_ ?_ _) | (with_reducible refine below_grew ?_ ?_ _) | (with_reducible refine Below.setCell ?_ ?_ _) | (with_reducible refine Below.drew ?_) | (with_reducible refine below_drewN ?_ _) | omega | (simp; done) | (simp; omega)))
def timesRe (a b c d : Int) : Int := wrap64 (wrap64 (a * c) - wrap64 (b * d))
def timesIm (a b c d : Int) : Int := wrap64 (wrap64 (a * d) + wrap64 (b * c))
theorem times_any (p q : Int × Int) (w : World) :
    Calls Tryd.prog 104 #[pairAgg p, pairAgg q] w fun e w' => e = .returned (pairAgg (timesRe p.1 p.2 q.1 q.2, timesIm p.1 p.2 q.1 q.2)) ∧ Below w.heap.size w w' := by
  obtain ⟨a, b⟩ := p
  obtain ⟨c, d⟩ := q
  unfold pairAgg
  go_enter Tryd.func104, Tryd.ntmps104
  go_wp2
  refine bodyPost_ret (v := _) (by simp [results, Tryd.results104, go_sem]; rfl) rfl ⟨?_, ?_⟩
  · rfl
  · (repeat' (first | (with_reducible exact Below.refl _ _) | (with_reducible assumption) | (with_reducible refine Below.alloc ?_ ?_ _) | (with_reducible refine below_grew ?_ ?_ _) | (with_reducible refine Below.setCell ?_ ?_ _) | (with_reducible refine Below.drew ?_) | (with_reducible refine below_drewN ?_ _) | omega | (simp; done) | (simp; omega)))
end Go.Proofs.YtcibajleknhklaaDoor
end

section
namespace Go.Proofs.YtcibajleknhklaaDoor
open Go.RowKit Go.BigFrame
set_option linter.unusedSimpArgs false
theorem accTimes_any (x n : Int) (h : In64 n) (w : World) :
    Calls Tryd.prog 131 #[accAgg x, .int .i64 n] w fun e w' => e = .returned (accAgg (x * n)) ∧ Below w.heap.size w w' := by
  obtain ⟨f1, f2, f3⟩ := times_facts x n h
  have F1 := Lib.hid f1
  clear h
  unfold hiTimes at f2 f3
  unfold accAgg
  by_cases hn : 0 ≤ n
  · have F2 := Lib.hid (f2 hn)
    clear f1 f2 f3
    go_enter Tryd.func131, Tryd.ntmps131
    go_wp2_with (go_at_call 145; refine (mul64_run _ _ ?_ ?_ _).mono ?_; exact accLo_bd _; exact u64_bd _; rintro e w' ⟨rfl, rfl⟩)
    refine bodyPost_ret (v := _) (by simp [results, Tryd.results131, go_sem]; rfl) rfl ⟨?_, ?_⟩
    · rw [← F1.out, ← F2.out]
    · (repeat' (first | (with_reducible exact Below.refl _ _) | (with_reducible assumption) | (with_reducible refine Below.alloc ?_ ?_ _) | (with_reducible refine below_grew ?_ ?_ _) | (with_reducible refine Below.setCell ?_ ?_ _) | (with_reducible refine Below.drew ?_) | (with_reducible refine below_drewN ?_ _) | omega | (simp; done) | (simp; omega)))
  · have F3 := Lib.hid (f3 (by omega))
    have hn' : n < 0 := by omega
    clear f1 f2 f3 hn
    go_enter Tryd.func131, Tryd.ntmps131
    go_wp2_with (go_at_call 145; refine (mul64_run _ _ ?_ ?_ _).mono ?_; exact accLo_bd _; exact u64_bd _; rintro e w' ⟨rfl, rfl⟩)
    refine bodyPost_ret (v := _) (by simp [results, Tryd.results131, go_sem]; rfl) rfl ⟨?_, ?_⟩
    · rw [← F1.out, ← F3.out]
    · (repeat' (first | (with_reducible exact Below.refl _ _) | (with_reducible assumption) | (with_reducible refine Below.alloc ?_ ?_ _) | (with_reducible refine below_grew ?_ ?_ _) | (with_reducible refine Below.setCell ?_ ?_ _) | (with_reducible refine Below.drew ?_) | (with_reducible refine below_drewN ?_ _) | omega | (simp; done) | (simp; omega)))
theorem mul_any (a b : Int) (ha : In64 a) (hb : In64 b) (w : World) :
    Calls Tryd.prog 110 #[.int .i64 a, .int .i64 b] w fun e w' => e = .returned (accAgg (a * b)) ∧ Below w.heap.size w w' := by
  have h1 := fun w => of_any a ha w
  have h2 := fun w => accTimes_any a b hb w
  have H1 := Lib.hid h1
  have H2 := Lib.hid h2
  clear h1 h2 ha hb
  go_enter Tryd.func110, Tryd.ntmps110
  go_wp2_with fail
  refine (H1.out _).mono ?_
  rintro e w' ⟨rfl, hb1⟩
  obtain ⟨x1, rfl⟩ := below_as_grew hb1
  clear hb1
  go_wp2_with fail
  refine (H2.out _).mono ?_
  rintro e w' ⟨rfl, hb1⟩
  obtain ⟨x2, rfl⟩ := below_as_grew hb1
  clear hb1
  unfold accAgg
  go_wp2
  refine bodyPost_ret (v := _) (by simp [results, Tryd.results110, go_sem]; rfl) rfl ⟨?_, ?_⟩
  · rfl
  · (repeat' (first | (with_reducible exact Below.refl _ _) | (with_reducible assumption) | (with_reducible refine Below.alloc ?_ ?_ _) | (with_reducible refine below_grew ?_ ?_ _) | (with_reducible refine Below.setCell ?_ ?_ _) | (with_reducible refine Below.drew ?_) | (with_reducible refine below_drewN ?_ _) | omega | (simp; done) | (simp; omega)))
/-- A pair of wide numbers, as a value. -/
def bigAgg (x y : Int) : Value := .agg #[.int .i64 (accHi x), .int .u64 (accLo x), .int .i64 (accHi y), .int .u64 (accLo y)]
theorem bigPlus_any (a b c d : Int) (w : World) :
    Calls Tryd.prog 68 #[bigAgg a b, bigAgg c d] w fun e w' => e = .returned (bigAgg (a + c) (b + d)) ∧ Below w.heap.size w w' := by
  have h1 := fun x y w => plus_any x y w
  unfold accAgg at h1
  have H := Lib.hid h1
  clear h1
  unfold bigAgg
  go_enter Tryd.func68, Tryd.ntmps68
  go_wp2
  first | refine wp_region_grew2 11 (by kernel_rfl) (by kernel_rfl) ?_ | refine wp_region_grew 11 (by kernel_rfl) (by kernel_rfl) ?_
  simp only [List.take_succ_cons, List.take_zero, List.drop_succ_cons, List.drop_zero]
  repeat (go_big_quiet_step (refine Calls.grew_of (H.out _ _ _)))
  refine wpQuiet_nil ?_
  rintro _ ⟨x, rfl⟩
  go_wp2
  refine bodyPost_ret (v := _) (by simp [results, Tryd.results68, go_sem]; rfl) rfl ⟨?_, ?_⟩
  · rfl
  · (repeat' (first | (with_reducible exact Below.refl _ _) | (with_reducible assumption) | (with_reducible refine Below.alloc ?_ ?_ _) | (with_reducible refine below_grew ?_ ?_ _) | (with_reducible refine Below.setCell ?_ ?_ _) | (with_reducible refine Below.drew ?_) | (with_reducible refine below_drewN ?_ _) | omega | (simp; done) | (simp; omega)))
theorem pairBig_any (a b c d : Int) (ha : In64 a) (hb : In64 b) (hc : In64 c) (hd : In64 d) (w : World) :
    Calls Tryd.prog 69 #[pairAgg (a, b), pairAgg (c, d)] w fun e w' => e = .returned (bigAgg (a * c - b * d) (a * d + b * c)) ∧ Below w.heap.size w w' := by
  have m1 := mul_any
  have p1 := plus_any
  have p2 := minus_any
  unfold accAgg at m1 p1 p2
  have M1 := Lib.hid m1
  have P1 := Lib.hid p1
  have P2 := Lib.hid p2
  clear m1 p1 p2
  unfold pairAgg
  go_enter Tryd.func69, Tryd.ntmps69
  go_wp2
  first | refine wp_region_grew2 23 (by kernel_rfl) (by kernel_rfl) ?_ | refine wp_region_grew 23 (by kernel_rfl) (by kernel_rfl) ?_
  simp only [List.take_succ_cons, List.take_zero, List.drop_succ_cons, List.drop_zero]
  repeat (go_big_quiet_step (first | (go_at_call 110; refine Calls.grew_of (M1.out _ _ ?_ ?_ _) <;> assumption) | (go_at_call 109; exact Calls.grew_of (P1.out _ _ _)) | (go_at_call 111; exact Calls.grew_of (P2.out _ _ _))))
  refine wpQuiet_nil ?_
  rintro _ ⟨x, rfl⟩
  go_wp2
  refine bodyPost_ret (v := _) (by simp [results, Tryd.results69, go_sem]; rfl) rfl ⟨?_, ?_⟩
  · rfl
  · (repeat' (first | (with_reducible exact Below.refl _ _) | (with_reducible assumption) | (with_reducible refine Below.alloc ?_ ?_ _) | (with_reducible refine below_grew ?_ ?_ _) | (with_reducible refine Below.setCell ?_ ?_ _) | (with_reducible refine Below.drew ?_) | (with_reducible refine below_drewN ?_ _) | omega | (simp; done) | (simp; omega)))
end Go.Proofs.YtcibajleknhklaaDoor
end

section
namespace Go.Proofs.YtcibajleknhklaaDoor
open Go.RowKit Go.BigFrame
set_option linter.unusedSimpArgs false
def wmul (p q : Int × Int) : Int × Int := (p.1 * q.1 - p.2 * q.2, p.1 * q.2 + p.2 * q.1)
def wturn (s : Nat) (k : Int) (i : Nat) : Int × Int := turnF (k % 2 ^ (s - i) * 2 ^ (8 - (s - i)))
def wstep (s : Nat) (n k : Int) (i : Nat) (p : Int × Int) : Int × Int := if n / 2 ^ i % 2 = 0 then wmul p (4096, 0) else wmul p (wturn s k i)
def weightTo (s : Nat) (n k : Int) : Nat → Int × Int
  | 0 => (1, 0)
  | i + 1 => wstep s n k i (weightTo s n k i)
def weightF (s : Nat) (n k : Int) : Int × Int := weightTo s n k s
/-- Half the numbers are held: at most so large. -/
def small (b : Int) (p : Int × Int) : Prop := -b ≤ p.1 ∧ p.1 ≤ b ∧ -b ≤ p.2 ∧ p.2 ≤ b
theorem prod_le {a b x y : Int} (ha : -a ≤ x ∧ x ≤ a) (hb : -b ≤ y ∧ y ≤ b) : -(a * b) ≤ x * y ∧ x * y ≤ a * b := by
  have h1 : x * y ≤ a * b := by
    by_cases hy : 0 ≤ y
    · calc x * y ≤ a * y := Int.mul_le_mul_of_nonneg_right ha.2 hy
        _ ≤ a * b := Int.mul_le_mul_of_nonneg_left hb.2 (by omega)
    · calc x * y = (-x) * (-y) := by grind
        _ ≤ a * (-y) := Int.mul_le_mul_of_nonneg_right (by omega) (by omega)
        _ ≤ a * b := Int.mul_le_mul_of_nonneg_left (by omega) (by omega)
  have h2 : (-x) * y ≤ a * b := by
    by_cases hy : 0 ≤ y
    · calc (-x) * y ≤ a * y := Int.mul_le_mul_of_nonneg_right (by omega) hy
        _ ≤ a * b := Int.mul_le_mul_of_nonneg_left hb.2 (by omega)
    · calc (-x) * y = x * (-y) := by grind
        _ ≤ a * (-y) := Int.mul_le_mul_of_nonneg_right (by omega) (by omega)
        _ ≤ a * b := Int.mul_le_mul_of_nonneg_left (by omega) (by omega)
  have e : (-x) * y = -(x * y) := by grind
  omega
theorem wmul_small {b c : Int} {p q : Int × Int} (hp : small b p) (hq : small c q) : small (2 * (b * c)) (wmul p q) := by
  obtain ⟨p1, p2, p3, p4⟩ := hp
  obtain ⟨q1, q2, q3, q4⟩ := hq
  have h1 := prod_le (a := b) (b := c) ⟨p1, p2⟩ ⟨q1, q2⟩
  have h2 := prod_le (a := b) (b := c) ⟨p3, p4⟩ ⟨q3, q4⟩
  have h3 := prod_le (a := b) (b := c) ⟨p1, p2⟩ ⟨q3, q4⟩
  have h4 := prod_le (a := b) (b := c) ⟨p3, p4⟩ ⟨q1, q2⟩
  unfold small wmul
  refine ⟨?_, ?_, ?_, ?_⟩ <;> simp only <;> omega
theorem turnF_small (j : Int) : small 4096 (turnF j) := by
  have h1 := cosF_bd j
  have h2 := cosF_bd (j - 64)
  unfold small turnF
  refine ⟨?_, ?_, ?_, ?_⟩ <;> simp only <;> omega
theorem wstep_small {b : Int} {p : Int × Int} (s : Nat) (n k : Int) (i : Nat) (hp : small b p) : small (8192 * b) (wstep s n k i p) := by
  have e : (8192 : Int) * b = 2 * (b * 4096) := by omega
  rw [e]
  unfold wstep
  split
  · exact wmul_small hp (by unfold small; decide)
  · exact wmul_small hp (turnF_small _)
theorem weightTo_small (s : Nat) (n k : Int) (i : Nat) : small (8192 ^ i) (weightTo s n k i) := by
  induction i with
  | zero => unfold small weightTo; decide
  | succ i ih =>
    have := wstep_small s n k i ih
    rw [Int.pow_succ, Int.mul_comm]
    exact this
/-- A product that doesn't wrap. -/
theorem times_exact (p q : Int × Int) (hp : small 549755813888 p) (hq : small 4096 q) : (timesRe p.1 p.2 q.1 q.2, timesIm p.1 p.2 q.1 q.2) = wmul p q := by
  obtain ⟨p1, p2, p3, p4⟩ := hp
  obtain ⟨q1, q2, q3, q4⟩ := hq
  have h1 := prod_le (a := 549755813888) (b := 4096) ⟨p1, p2⟩ ⟨q1, q2⟩
  have h2 := prod_le (a := 549755813888) (b := 4096) ⟨p3, p4⟩ ⟨q3, q4⟩
  have h3 := prod_le (a := 549755813888) (b := 4096) ⟨p1, p2⟩ ⟨q3, q4⟩
  have h4 := prod_le (a := 549755813888) (b := 4096) ⟨p3, p4⟩ ⟨q1, q2⟩
  unfold timesRe timesIm wmul
  rw [IntWalk.wrap64_in (p.1 * q.1) (by omega), IntWalk.wrap64_in (p.2 * q.2) (by omega), IntWalk.wrap64_in (p.1 * q.2) (by omega), IntWalk.wrap64_in (p.2 * q.1) (by omega), IntWalk.wrap64_in _ (by omega), IntWalk.wrap64_in _ (by omega)]
theorem weight_held (s : Nat) (n k : Int) (i : Nat) (h : i ≤ 3) : small 549755813888 (weightTo s n k i) := by
  have h1 := weightTo_small s n k i
  have h2 : (8192 : Int) ^ i ≤ 549755813888 := by
    have : i = 0 ∨ i = 1 ∨ i = 2 ∨ i = 3 := by omega
    rcases this with rfl | rfl | rfl | rfl <;> decide
  unfold small at *
  omega
theorem sizes (d : Nat) (h1 : 1 ≤ d) (h4 : d ≤ 4) : (2 : Int) ≤ 2 ^ d ∧ (2 : Int) ^ d ≤ 16 ∧ (256 : Int) / 2 ^ d = 2 ^ (8 - d) ∧ (1 : Int) ≤ 2 ^ (8 - d) ∧ (2 : Int) ^ (8 - d) ≤ 128 ∧ (2 : Int) ^ d * 2 ^ (8 - d) = 256 := by
  have : d = 1 ∨ d = 2 ∨ d = 3 ∨ d = 4 := by omega
  rcases this with rfl | rfl | rfl | rfl <;> decide
theorem weight_walk (S : Nat) (hS : S ≤ 4) (s M n k : Int) (h1 : max s 0 = M) (h2 : min M 4 = S) (w : World) (hT : CosW w) :
    Calls Tryd.prog 70 #[.int .i64 s, .int .i64 n, .int .i64 k] w fun e w' => e = .returned (pairAgg (weightF S n k)) ∧ Below w.heap.size w w' := by
  have ht := times_any
  have hu := turn_any
  unfold pairAgg at ht hu
  have HT := Lib.hid ht
  have Hu := Lib.hid hu
  clear ht hu
  have ha := fun x => i64_and1 x
  unfold pairAgg
  have hS0 : (0 : Int) ≤ S := by omega
  have hS4 : (S : Int) ≤ 4 := by omega
  go_enter Tryd.func70, Tryd.ntmps70
  go_wp2
  clear h1 h2
  go_loopw [15] (fun c wr => ∃ i : Nat, i ≤ S ∧ c = .int .i64 i ∧ ∃ x, wr = ((w.alloc (.cells #[.int .i64 0, .int .i64 0] 49)).alloc (.cells #[.int .i64 (weightTo S n k i).1, .int .i64 (weightTo S n k i).2] 49)).grew x) (fun c _ => S - (intOf c).toNat)
  case atStart => exact ⟨0, by omega, rfl, World.as_grew _⟩
  case round =>
    obtain ⟨i, hi, rfl, x, rfl⟩ := hrel
    by_cases hlt : i < S
    · have hlt' : (i : Int) < S := by omega
      have hi0 : (0 : Int) ≤ i := by omega
      by_cases hb : n / 2 ^ i % 2 = 0
      · have E := Lib.hid (show weightTo S n k (i + 1) = wmul (weightTo S n k i) (4096, 0) from by show wstep S n k i _ = _; unfold wstep; rw [if_pos hb])
        have Ex := Lib.hid (times_exact (weightTo S n k i) (4096, 0) (weight_held S n k i (by omega)) (by unfold small; decide))
        go_wp2_with (go_at_call 104; refine (HT.out (weightTo S n k i) (4096, 0) _).mono ?_; rintro e w' ⟨rfl, hb1⟩; obtain ⟨x1, rfl⟩ := below_as_grew hb1; clear hb1)
        go_roundw
        case rel => exact ⟨i + 1, by omega, by go_num, by rw [E.out, ← Ex.out]; simp only [World.grew_grew]; exact ⟨_, rfl⟩⟩
        case measure => simp [intOf]; omega
      · have hd : ∃ d : Nat, S - i = d ∧ 1 ≤ d ∧ d ≤ 4 := ⟨S - i, rfl, by omega, by omega⟩
        obtain ⟨d, hd, hd1, hd4⟩ := hd
        have E := Lib.hid (show weightTo S n k (i + 1) = wmul (weightTo S n k i) (turnF (k % 2 ^ d * 2 ^ (8 - d))) from by show wstep S n k i _ = _; unfold wstep wturn; rw [if_neg hb, hd])
        have Ex := Lib.hid (times_exact (weightTo S n k i) (turnF (k % 2 ^ d * 2 ^ (8 - d))) (weight_held S n k i (by omega)) (turnF_small _))
        obtain ⟨s1, s2, s3, s4, s5, s6⟩ := sizes d hd1 hd4
        have z3 := i64_mask d (by omega) k
        have z5 : 0 ≤ k % 2 ^ d := Int.emod_nonneg _ (by omega)
        have z6 : k % 2 ^ d < 2 ^ d := Int.emod_lt_of_pos _ (by omega)
        have z7 : k % 2 ^ d * 2 ^ (8 - d) ≤ 2 ^ d * 2 ^ (8 - d) := Int.mul_le_mul_of_nonneg_right (by omega) (by omega)
        have z8 : 0 ≤ k % 2 ^ d * 2 ^ (8 - d) := Int.mul_nonneg z5 (by omega)
        generalize hD : (2 : Int) ^ d = D at *
        generalize (2 : Int) ^ (8 - d) = F at *
        have z1 : wrap64 (2 ^ (S - i)) = D := by rw [hd, hD]; exact IntWalk.wrap64_in _ (by omega)
        have z9 : wrap64 (k % D * F) = k % D * F := IntWalk.wrap64_in _ (by omega)
        clear hD hd hd1 hd4 s4 s5 s6 z5 z6 z7 z8
        go_wp2_with fail
        first | refine wp_region_grew2 10 (by kernel_rfl) (by kernel_rfl) ?_ | refine wp_region_grew 10 (by kernel_rfl) (by kernel_rfl) ?_
        simp only [List.take_succ_cons, List.take_zero, List.drop_succ_cons, List.drop_zero]
        repeat (go_big_quiet_step (first | (go_at_call 104; exact Calls.grew_of (HT.out (weightTo S n k i) (turnF (k % D * F)) _)) | (go_at_call 61; refine Calls.grew_of (Hu.out _ _ ?_); exact hT.below (by (repeat' (first | (with_reducible exact Below.refl _ _) | (with_reducible assumption) | (with_reducible refine Below.alloc ?_ ?_ _) | (with_reducible refine below_grew ?_ ?_ _) | (with_reducible refine Below.setCell ?_ ?_ _) | (with_reducible refine Below.drew ?_) | (with_reducible refine below_drewN ?_ _) | omega | (simp; done) | (simp; omega)))))))
        refine wpQuiet_nil ?_
        rintro _ ⟨x, rfl⟩
        go_wp2
        go_roundw
        case rel => exact ⟨i + 1, by omega, by go_num, by rw [E.out, ← Ex.out]; simp only [World.grew_grew]; exact ⟨_, rfl⟩⟩
        case measure => simp [intOf]; omega
    · obtain rfl : S = i := by omega
      go_wp2
      refine bodyPost_ret (v := _) (by simp [results, Tryd.results70, go_sem]; rfl) rfl ⟨?_, ?_⟩
      · rfl
      · (repeat' (first | (with_reducible exact Below.refl _ _) | (with_reducible assumption) | (with_reducible refine Below.alloc ?_ ?_ _) | (with_reducible refine below_grew ?_ ?_ _) | (with_reducible refine Below.setCell ?_ ?_ _) | (with_reducible refine Below.drew ?_) | (with_reducible refine below_drewN ?_ _) | omega | (simp; done) | (simp; omega)))
/-- How many bits count. -/
def clampS (s : Int) : Nat := (min (max s 0) 4).toNat
theorem weight_any (s n k : Int) (w : World) (hT : CosW w) :
    Calls Tryd.prog 70 #[.int .i64 s, .int .i64 n, .int .i64 k] w fun e w' => e = .returned (pairAgg (weightF (clampS s) n k)) ∧ Below w.heap.size w w' :=
  weight_walk (clampS s) (by unfold clampS; omega) s _ n k rfl (by unfold clampS; omega) w hT
end Go.Proofs.YtcibajleknhklaaDoor
end

section
namespace Go.Proofs.YtcibajleknhklaaDoor
open Go.RowKit Go.BigFrame
set_option linter.unusedSimpArgs false
/-- A list of pairs that lies in memory. -/
def PairsAt (w : World) (v : Value) (l : List (Int × Int)) : Prop :=
  (l = [] ∧ ∃ a c, v = .slice a 0 c) ∨ ∃ b off c, v = .slice (some ⟨b, off, none⟩) l.length c ∧ b < w.heap.size ∧
    ∀ j, j < l.length → w.cell? ⟨b, off + j * 2, none⟩ = some (.int .i64 (l.getD j (0, 0)).1) ∧ w.cell? ⟨b, off + j * 2 + 1, none⟩ = some (.int .i64 (l.getD j (0, 0)).2)
theorem PairsAt.below {w w' : World} {v : Value} {l : List (Int × Int)} (h : PairsAt w v l) (hb : Below w.heap.size w w') : PairsAt w' v l := by
  rcases h with h | ⟨b, off, c, hv, hlt, hc⟩
  · exact .inl h
  · exact .inr ⟨b, off, c, hv, Nat.lt_of_lt_of_le hlt hb.size, fun j hj => ⟨(hb.cell (p := ⟨b, _, none⟩) hlt).trans (hc j hj).1, (hb.cell (p := ⟨b, _, none⟩) hlt).trans (hc j hj).2⟩⟩
/-- One summand. -/
def term (s : Nat) (l : List (Int × Int)) (k n : Nat) : Int × Int := wmul (l.getD n (0, 0)) (weightF s n k)
def sumTo (s : Nat) (l : List (Int × Int)) (k : Nat) : Nat → Int × Int
  | 0 => (0, 0)
  | n + 1 => ((sumTo s l k n).1 + (term s l k n).1, (sumTo s l k n).2 + (term s l k n).2)
def bigCells (p : Int × Int) : List Value := [.int .i64 (accHi p.1), .int .u64 (accLo p.1), .int .i64 (accHi p.2), .int .u64 (accLo p.2)]
/-- The sums of a list of 2^s pairs. -/
def directF (s : Nat) (l : List (Int × Int)) : List (Int × Int) := (List.range l.length).map fun k => sumTo s l k l.length
theorem len_pow (s : Nat) (hs : s ≤ 4) : Lib.bitLen (2 ^ s) = s + 1 := by
  have : s = 0 ∨ s = 1 ∨ s = 2 ∨ s = 3 ∨ s = 4 := by omega
  rcases this with rfl | rfl | rfl | rfl | rfl <;> decide
theorem pow_wrap (s : Nat) (hs : s ≤ 4) : wrap64 (2 ^ s) = ((2 ^ s : Nat) : Int) := by
  have : s = 0 ∨ s = 1 ∨ s = 2 ∨ s = 3 ∨ s = 4 := by omega
  rcases this with rfl | rfl | rfl | rfl | rfl <;> (unfold wrap64; decide)
theorem clampS_nat (s : Nat) (hs : s ≤ 4) : clampS s = s := by unfold clampS; omega
theorem clampS_le (s : Int) : clampS s ≤ 4 := by unfold clampS; omega
theorem weightF_small (s : Nat) (hs : s ≤ 4) (n k : Int) : small 4503599627370496 (weightF s n k) := by
  have h1 := weightTo_small s n k s
  have h2 : (8192 : Int) ^ s ≤ 4503599627370496 := by
    have : s = 0 ∨ s = 1 ∨ s = 2 ∨ s = 3 ∨ s = 4 := by omega
    rcases this with rfl | rfl | rfl | rfl | rfl <;> decide
  unfold weightF small at *
  omega
theorem weight_in64 (s n k : Int) : In64 (weightF (clampS s) n k).1 ∧ In64 (weightF (clampS s) n k).2 := by
  have h := weightF_small (clampS s) (clampS_le s) n k
  unfold small at h
  unfold In64
  omega
theorem acc_zero : accHi 0 = 0 ∧ accLo 0 = 0 := by unfold accHi accLo wrap64; decide
theorem bigInfo : (Tryd.prog.info? 37).map (fun i => (i.zero, i.size, i.bytes)) = some (some (.agg #[.int .i64 0, .int .u64 0, .int .i64 0, .int .u64 0]), 4, 32) := by kernel_rfl
theorem direct_yes (s : Nat) (hs : s ≤ 4) (l : List (Int × Int)) (hl : l.length = 2 ^ s) (h64 : ∀ j, j < l.length → In64 (l.getD j (0, 0)).1 ∧ In64 (l.getD j (0, 0)).2) (b off c : Nat) (w : World) (hT : CosW w) (hb : b < w.heap.size)
    (hz : ∀ j, j < l.length → w.cell? ⟨b, off + j * 2, none⟩ = some (.int .i64 (l.getD j (0, 0)).1) ∧ w.cell? ⟨b, off + j * 2 + 1, none⟩ = some (.int .i64 (l.getD j (0, 0)).2)) :
    Calls Tryd.prog 26 #[.slice (some ⟨b, off, none⟩) l.length c] w fun e w' => ∃ v, e = .returned v ∧ w'.ownsRow w.heap.size 37 4 v l.length ((directF s l).flatMap bigCells) ∧ Below w.heap.size w w' := by
  have hlen : l.length ≤ 16 := by
    have : s = 0 ∨ s = 1 ∨ s = 2 ∨ s = 3 ∨ s = 4 := by omega
    rw [hl]; rcases this with rfl | rfl | rfl | rfl | rfl <;> decide
  have hLen := len_pow s hs
  rw [← hl] at hLen
  have hsh : wrap64 (2 ^ s) = l.length := by rw [hl]; exact pow_wrap s hs
  have hpos : 0 < l.length := by rw [hl]; exact Nat.two_pow_pos s
  generalize hn : l.length = n at *
  have hw : IntKind.u64.wrap (n : Int) = n := by rw [IntKind.wrap_u64]; omega
  have HL := Lib.hid hl
  have HZ := Lib.hid hz
  have H64 := Lib.hid h64
  have Hn := Lib.hid hn
  have hcl := Lib.hid (clampS_nat s hs)
  clear hl hz h64 hn
  go_enter Tryd.func26, Tryd.ntmps26
  go_wp2_with (go_at_call 63; refine (len_any _ _ ?_ ?_).mono ?_; omega; omega; rintro e w' ⟨rfl, rfl⟩)
  clear hw hLen
  go_loopw [29, 4] (fun cnt v wr => ∃ k : Nat, k ≤ n ∧ cnt = .int .i64 k ∧ wr.ownsRow w.heap.size 37 4 v k (((List.range k).map fun i => sumTo s l i n).flatMap bigCells) ∧ Below w.heap.size w wr) (fun cnt _ _ => n - (intOf cnt).toNat)
  case atStart => exact ⟨0, by omega, rfl, World.ownsRow_nil _ _ _ _, Below.refl _ _⟩
  case round =>
    obtain ⟨k, hk, rfl, hown, hbel⟩ := hrel
    obtain ⟨wo, rfl⟩ : ∃ wo : World, wo = wr := ⟨_, rfl⟩
    by_cases hlt : k < n
    · have hlt' : (k : Int) < n := by omega
      have hz := HZ.out
      have hz1 : ∀ j, j < n → wo.cell? ⟨b, off + j * 2, none⟩ = some (.int .i64 (l.getD j (0, 0)).1) := fun j hj => (hbel.cell (p := ⟨b, _, none⟩) hb).trans (hz j hj).1
      have hz2 : ∀ j, j < n → wo.cell? ⟨b, off + j * 2 + 1, none⟩ = some (.int .i64 (l.getD j (0, 0)).2) := fun j hj => (hbel.cell (p := ⟨b, _, none⟩) hb).trans (hz j hj).2
      have HZ1 := Lib.hid hz1
      have HZ2 := Lib.hid hz2
      have hbo : b < wo.heap.size := Nat.lt_of_lt_of_le hb hbel.size
      have hbo1 : b < wo.heap.size + 1 := by omega
      have hTo : CosW wo := hT.below hbel
      have W1 := weight_any
      have B1 := pairBig_any
      have S1 := bigPlus_any
      unfold pairAgg at W1 B1
      unfold bigAgg at B1 S1
      have HW := Lib.hid W1
      have HB := Lib.hid B1
      have HS := Lib.hid S1
      clear hz hz1 hz2 W1 B1 S1
      go_wp2
      go_loopw [34] (fun cnt wr => ∃ j : Nat, j ≤ n ∧ cnt = .int .i64 j ∧ ∃ x, wr = (wo.alloc (.cells #[.int .i64 (accHi (sumTo s l k j).1), .int .u64 (accLo (sumTo s l k j).1), .int .i64 (accHi (sumTo s l k j).2), .int .u64 (accLo (sumTo s l k j).2)] 37)).grew x) (fun cnt _ => n - (intOf cnt).toNat)
      case atStart =>
        refine ⟨0, by omega, rfl, ?_⟩
        show ∃ x, _ = (wo.alloc (.cells #[.int .i64 (accHi 0), .int .u64 (accLo 0), .int .i64 (accHi 0), .int .u64 (accLo 0)] 37)).grew x
        rw [acc_zero.1, acc_zero.2]
        exact World.as_grew _
      case round =>
        obtain ⟨j, hj, rfl, x, rfl⟩ := hrel
        by_cases hjn : j < n
        · have hjn' : (j : Int) < n := by omega
          have hj0 : (0 : Int) ≤ j := by omega
          have c1 := HZ1.out j hjn
          have c2 := HZ2.out j hjn
          go_wp2_with fail
          first | refine wp_region_grew2 8 (by kernel_rfl) (by kernel_rfl) ?_ | refine wp_region_grew 8 (by kernel_rfl) (by kernel_rfl) ?_
          simp only [List.take_succ_cons, List.take_zero, List.drop_succ_cons, List.drop_zero]
          repeat (go_big_quiet_step (first | (go_at_call 70; refine Calls.grew_of (HW.out _ _ _ _ ?_); exact hTo.below (by (repeat' (first | (with_reducible exact Below.refl _ _) | (with_reducible assumption) | (with_reducible refine Below.alloc ?_ ?_ _) | (with_reducible refine below_grew ?_ ?_ _) | (with_reducible refine Below.setCell ?_ ?_ _) | (with_reducible refine Below.drew ?_) | (with_reducible refine below_drewN ?_ _) | omega | (simp; done) | (simp; omega))))) | (go_at_call 69; refine Calls.grew_of (HB.out _ _ _ _ ?_ ?_ ?_ ?_ _) <;> first | exact (H64.out j hjn).1 | exact (H64.out j hjn).2 | exact (weight_in64 _ _ _).1 | exact (weight_in64 _ _ _).2) | (go_at_call 68; exact Calls.grew_of (HS.out _ _ _ _ _))))
          refine wpQuiet_nil ?_
          rintro _ ⟨x, rfl⟩
          go_wp2
          go_roundw
          case rel => exact ⟨j + 1, by omega, by go_num, by rw [hcl.out]; simp only [World.alloc_grew, World.grew_grew]; exact ⟨_, rfl⟩⟩
          case measure => simp [intOf]; omega
        · obtain rfl : j = n := by omega
          have hown' := ownsRow_below hown (w' := (wo.alloc (.cells #[.int .i64 (accHi (sumTo s l k j).1), .int .u64 (accLo (sumTo s l k j).1), .int .i64 (accHi (sumTo s l k j).2), .int .u64 (accLo (sumTo s l k j).2)] 37)).grew x) (by (repeat' (first | (with_reducible exact Below.refl _ _) | (with_reducible assumption) | (with_reducible refine Below.alloc ?_ ?_ _) | (with_reducible refine below_grew ?_ ?_ _) | (with_reducible refine Below.setCell ?_ ?_ _) | (with_reducible refine Below.drew ?_) | (with_reducible refine below_drewN ?_ _) | omega | (simp; done) | (simp; omega))))
          have hbo' : w.heap.size ≤ wo.heap.size := hbel.size
          go_wp2_with (at_builtin; refine wpList_append_one rfl _ _ 31 rfl w.heap.size 37 _ 4 32 Tryd.underlying31 bigInfo rfl (by decide) _ k _ rfl hown' _ [_, _, _, _] rfl ?hg rfl ?h1 ?h63 ?hby ?hba ?_; (case hg => simp; done); (case h1 => simp [Value.oneCell']; done); (case h63 => exact maxLen_le (by omega)); (case hby => omega); (case hba => simp; omega); intro v' w2 hown2 hbel2 _ _)
          go_roundw
          case rel => exact ⟨k + 1, by omega, by go_num, by rw [List.range_succ, List.map_append, List.flatMap_append]; exact hown2, (below_grew (hbel.alloc hbo' _) (by simp; omega) _).trans hbel2⟩
          case measure => simp [intOf]; omega
    · obtain rfl : k = n := by omega
      go_wp2
      go_ret
      refine ⟨_, rfl, ?_, hbel⟩
      unfold directF
      rw [Hn.out]
      exact hown
end Go.Proofs.YtcibajleknhklaaDoor
end

section
namespace Go.Proofs.YtcibajleknhklaaDoor
open Go.RowKit Go.BigFrame Go.Proofs.YtcibajleknhklaaDoorW.PrintWords Go.Proofs.YtcibajleknhklaaDoorW.PrintLast Go.Proofs.YtcibajleknhklaaDoorW.PrintMore
set_option linter.unusedSimpArgs false
set_option linter.unusedVariables false
theorem cell_blk {w w' : World} {b : Nat} (h : w'.heap[b]? = w.heap[b]?) (o : Nat) : w'.cell? ⟨b, o, none⟩ = w.cell? ⟨b, o, none⟩ := by unfold World.cell?; rw [h]
def In128 (z : Int) : Prop := -170141183460469231731687303715884105728 ≤ z ∧ z < 170141183460469231731687303715884105728
theorem accHi_in {z : Int} (h : In128 z) : accHi z = z / 18446744073709551616 := by
  obtain ⟨h1, h2⟩ := h
  unfold accHi wrap64; omega
theorem neg_any (x : Int) (w : World) : Calls Tryd.prog 108 #[accAgg x] w fun e w' => e = .returned (accAgg (-x)) ∧ Below w.heap.size w w' := by
  have hm := minus_any 0 x
  unfold accAgg at hm ⊢
  rw [show accHi 0 = 0 from by decide +kernel, show accLo 0 = 0 from by decide +kernel, Int.zero_sub] at hm
  have HM := Lib.hid hm
  clear hm
  go_enter Tryd.func108, Tryd.ntmps108
  go_wp2_with fail
  refine (HM.out _).mono ?_
  rintro e w' ⟨rfl, hb1⟩; obtain ⟨x1, rfl⟩ := below_as_grew hb1; clear hb1
  go_wp2_with fail
  refine bodyPost_ret (v := _) (by simp [results, Tryd.results108, go_sem]; rfl) rfl ⟨?_, ?_⟩
  · rfl
  · (repeat' (first | (with_reducible exact Below.refl _ _) | (with_reducible assumption) | (with_reducible refine Below.alloc ?_ ?_ _) | (with_reducible refine below_grew ?_ ?_ _) | (with_reducible refine Below.setCell ?_ ?_ _) | (with_reducible refine Below.drew ?_) | (with_reducible refine below_drewN ?_ _) | omega | (simp; done) | (simp; omega)))
def clamp32 (x : Int) : Int := min (max x (-2147483648)) 2147483647
theorem fixSat32 (x : Int) (w : World) : Calls Tryd.prog 94 #[.int .i64 x, .int .i64 32] w fun e w' => e = .returned (.int .i64 (clamp32 x)) ∧ Below w.heap.size w w' := by
  have e0 : min (max (32 : Int) 1) 63 = 32 := by decide
  have e1 : wrap64 (2 ^ 31) = 2147483648 := by decide +kernel
  have e2 : bits .xor .i64 (-1) 2147483647 = -2147483648 := by decide +kernel
  go_enter Tryd.func94, Tryd.ntmps94
  go_wp2
  go_ret
  exact ⟨by rfl, by (repeat' (first | (with_reducible exact Below.refl _ _) | (with_reducible assumption) | (with_reducible refine Below.alloc ?_ ?_ _) | (with_reducible refine below_grew ?_ ?_ _) | (with_reducible refine Below.setCell ?_ ?_ _) | (with_reducible refine Below.drew ?_) | (with_reducible refine below_drewN ?_ _) | omega | (simp; done) | (simp; omega)))⟩
theorem shr_split (z : Int) (s : Nat) (h : 64 ≤ s) : z / 2 ^ s = z / 18446744073709551616 / 2 ^ (s - 64) := by
  have e : (2 : Int) ^ s = 18446744073709551616 * 2 ^ (s - 64) := by
    conv => lhs; rw [show s = 64 + (s - 64) from by omega, Int.pow_add]
    rfl
  rw [e, ← Int.ediv_ediv_of_nonneg (by decide)]
theorem shr64 (x : Int) (h : In64 x) (k : Nat) : In64 (x / 2 ^ k) := by
  have hp : (0 : Int) < 2 ^ k := Int.pow_pos (by decide)
  obtain ⟨h1, h2⟩ := h
  constructor
  · refine Int.le_ediv_of_mul_le hp ?_
    have : (1 : Int) ≤ 2 ^ k := hp
    have := Int.mul_le_mul_of_nonneg_left this (show (0 : Int) ≤ 9223372036854775808 by decide)
    omega
  · refine Int.le_trans (Int.ediv_le_ediv hp h2) ?_
    exact Int.ediv_le_self _ (by decide)
theorem or_comm64 (a b : Int) : bits .or .u64 a b = bits .or .u64 b a := by
  unfold bits
  simp only [BitVec.or_comm]
theorem join_words (hi lo P Q : Int) (hP : 0 < P) (hQ : 0 < Q) (hPQ : P * Q = 18446744073709551616) (h0 : 0 ≤ lo) (h1 : lo < 18446744073709551616) :
    (hi * 18446744073709551616 + lo) / P = hi * Q + lo / P ∧ 0 ≤ lo / P ∧ lo / P < Q ∧ (hi * Q) % 18446744073709551616 = hi % P * Q ∧ (hi * Q + lo / P) % 18446744073709551616 = hi % P * Q + lo / P := by
  have hs0 : 0 ≤ lo / P := Int.ediv_nonneg h0 (by omega)
  have hs1 : lo / P < Q := Int.ediv_lt_of_lt_mul hP (by rw [Int.mul_comm, hPQ]; exact h1)
  have hr0 := Int.emod_nonneg hi (show P ≠ 0 by omega)
  have hr1 := Int.emod_lt_of_pos hi hP
  refine ⟨?_, hs0, hs1, ?_, ?_⟩
  · rw [← hPQ, show hi * (P * Q) + lo = lo + hi * Q * P from by rw [Int.mul_comm P Q, ← Int.mul_assoc, Int.add_comm], Int.add_mul_ediv_right _ _ (by omega), Int.add_comm]
  · rw [← hPQ, Int.mul_comm hi Q, Int.mul_comm P Q, Int.mul_emod_mul_of_pos _ _ hQ, Int.mul_comm]
  · have e : hi * Q + lo / P = (hi % P * Q + lo / P) + hi / P * (P * Q) := by
      have := Int.emod_add_mul_ediv hi P
      have e2 : hi * Q = (hi % P + P * (hi / P)) * Q := by rw [this]
      rw [e2, Int.add_mul, Int.mul_comm P (hi / P), Int.mul_assoc]
      omega
    rw [e, ← hPQ, Int.add_mul_emod_self_right]
    refine Int.emod_eq_of_lt (Int.add_nonneg (Int.mul_nonneg hr0 (by omega)) hs0) ?_
    have h2 : hi % P * Q ≤ (P - 1) * Q := Int.mul_le_mul_of_nonneg_right (by omega) (by omega)
    rw [Int.sub_mul] at h2
    omega
theorem pow_split (s : Nat) (h : ¬ 64 ≤ s) : (2 : Int) ^ s * 2 ^ (64 - s) = 18446744073709551616 := by
  rw [← Int.pow_add, show s + (64 - s) = 64 from by omega]; rfl
theorem shr_hi {z : Int} (hz : In128 z) (s : Nat) (h : ¬ 64 ≤ s) : accHi z / 2 ^ s = accHi (z / 2 ^ s) := by
  have hp : (0 : Int) < 2 ^ s := Int.pow_pos (by decide)
  have h128 : In128 (z / 2 ^ s) := by
    obtain ⟨h1, h2⟩ := hz
    constructor
    · refine Int.le_ediv_of_mul_le hp ?_
      have : (1 : Int) ≤ 2 ^ s := hp
      have := Int.mul_le_mul_of_nonneg_left this (show (0 : Int) ≤ 170141183460469231731687303715884105728 by decide)
      omega
    · by_cases h0 : 0 ≤ z
      · exact Int.lt_of_le_of_lt (Int.ediv_le_self _ h0) h2
      · have : z / 2 ^ s < 0 := Int.ediv_neg_of_neg_of_pos (by omega) hp
        omega
  rw [accHi_in hz, accHi_in h128, Int.ediv_ediv_of_nonneg (by decide), Int.ediv_ediv_of_nonneg (by omega), Int.mul_comm]
theorem shr_lo {z : Int} (hz : In128 z) (s : Nat) (hs : 0 < s) (h : ¬ 64 ≤ s) : bits .or .u64 (accLo z / 2 ^ s) (IntKind.u64.wrap (IntKind.u64.wrap (accHi z) * 2 ^ (64 - s))) = accLo (z / 2 ^ s) := by
  obtain ⟨l0, l1⟩ := accLo_bd z
  obtain ⟨e1, e2, e3, e4, e5⟩ := join_words (accHi z) (accLo z) (2 ^ s) (2 ^ (64 - s)) (Int.pow_pos (by decide)) (Int.pow_pos (by decide)) (pow_split s h) l0 (by omega)
  have ez : accHi z * 18446744073709551616 + accLo z = z := by rw [accHi_in hz]; unfold accLo; omega
  rw [ez] at e1
  have eh : IntKind.u64.wrap (IntKind.u64.wrap (accHi z) * 2 ^ (64 - s)) = accHi z % 2 ^ s * 2 ^ (64 - s) := by
    rw [IntKind.wrap_u64, IntKind.wrap_u64, Int.mul_emod, Int.emod_emod, ← Int.mul_emod]
    exact e4
  rw [eh]
  have h264 : (2 : Int) ^ 64 = 18446744073709551616 := by decide +kernel
  have hc : bits .or .u64 (accLo z / 2 ^ s) (accHi z % 2 ^ s * 2 ^ (64 - s)) = bits .or .u64 (accHi z % 2 ^ s * 2 ^ (64 - s)) (accLo z / 2 ^ s) := or_comm64 _ _
  have hQ : (0 : Int) < 2 ^ (64 - s) := Int.pow_pos (by decide)
  have hP : (0 : Int) < 2 ^ s := Int.pow_pos (by decide)
  have hr0 := Int.emod_nonneg (accHi z) (show (2 : Int) ^ s ≠ 0 by omega)
  have hr1 := Int.emod_lt_of_pos (accHi z) hP
  have hx1 : accHi z % 2 ^ s * 2 ^ (64 - s) + 2 ^ (64 - s) ≤ 18446744073709551616 := by
    have h2 : accHi z % 2 ^ s * 2 ^ (64 - s) ≤ (2 ^ s - 1) * 2 ^ (64 - s) := Int.mul_le_mul_of_nonneg_right (by omega) (by omega)
    rw [Int.sub_mul, pow_split s h] at h2
    omega
  rw [hc, bits_join .u64 64 (by decide) (fun n h0 h1 => by rw [IntKind.wrap_u64]; rw [h264] at h1; omega) (64 - s) _ _ (Int.mul_nonneg hr0 (by omega)) (Int.mul_emod_left _ _) (by rw [h264]; omega) e2 e3 (by rw [h264]; omega)]
  rw [← e5, ← e1]
  rfl
set_option maxHeartbeats 2000000 in
theorem shr_any (z : Int) (hz : In128 z) (s : Nat) (hs : 0 < s) (hs2 : s < 127) (w : World) : Calls Tryd.prog 132 #[accAgg z, .int .i64 s] w fun e w' => e = .returned (accAgg (z / 2 ^ s)) ∧ Below w.heap.size w w' := by
  have e0 : min (s : Int) 127 = (s : Int) := by omega
  unfold accAgg
  by_cases h64 : 64 ≤ s
  · have h64' : (64 : Int) ≤ (s : Int) := by omega
    obtain ⟨v, hv⟩ : ∃ v, z / 2 ^ s = v := ⟨_, rfl⟩
    have E : accHi z / 2 ^ (s - 64) = v := by rw [accHi_in hz, ← shr_split z s h64]; exact hv
    have hv64 : In64 v := by rw [← E]; exact shr64 _ (by rw [accHi_in hz]; obtain ⟨h1, h2⟩ := hz; unfold In64; omega) _
    have ho := of_any v hv64
    rw [hv]
    unfold accAgg at ho
    have HO := Lib.hid ho
    have HE := Lib.hid E
    clear ho E hv hv64 hz
    go_enter Tryd.func132, Tryd.ntmps132
    go_wp2_with fail
    rw [HE.out]
    refine (HO.out _).mono ?_
    rintro e w' ⟨rfl, hb1⟩; obtain ⟨x1, rfl⟩ := below_as_grew hb1; clear hb1
    go_wp2_with fail
    refine bodyPost_ret (v := _) (by simp [results, Tryd.results132, go_sem]; rfl) rfl ⟨?_, ?_⟩
    · rfl
    · (repeat' (first | (with_reducible exact Below.refl _ _) | (with_reducible assumption) | (with_reducible refine Below.alloc ?_ ?_ _) | (with_reducible refine below_grew ?_ ?_ _) | (with_reducible refine Below.setCell ?_ ?_ _) | (with_reducible refine Below.drew ?_) | (with_reducible refine below_drewN ?_ _) | omega | (simp; done) | (simp; omega)))
  · have h64' : ¬ (64 : Int) ≤ (s : Int) := by omega
    go_enter Tryd.func132, Tryd.ntmps132
    go_wp2_with fail
    first | refine wp_region_grew2 16 (by kernel_rfl) (by kernel_rfl) ?_ | refine wp_region_grew 16 (by kernel_rfl) (by kernel_rfl) ?_
    simp only [List.take_succ_cons, List.take_zero, List.drop_succ_cons, List.drop_zero]
    repeat (go_big_quiet_step (fail))
    refine wpQuiet_nil ?_
    rintro _ ⟨x, rfl⟩
    go_wp2_with fail
    refine bodyPost_ret (v := _) (by simp [results, Tryd.results132, go_sem]; rfl) rfl ⟨?_, ?_⟩
    · rw [shr_hi hz s h64, shr_lo hz s hs h64]
    · (repeat' (first | (with_reducible exact Below.refl _ _) | (with_reducible assumption) | (with_reducible refine Below.alloc ?_ ?_ _) | (with_reducible refine below_grew ?_ ?_ _) | (with_reducible refine Below.setCell ?_ ?_ _) | (with_reducible refine Below.drew ?_) | (with_reducible refine below_drewN ?_ _) | omega | (simp; done) | (simp; omega)))
/-- A quotient by a power of two, rounded. -/
def rnd (s : Nat) (z : Int) : Int := z / 2 ^ s + z / 2 ^ (s - 1) % 2
theorem small_words (b : Int) (h0 : 0 ≤ b) (h1 : b < 18446744073709551616) : accHi b = 0 ∧ accLo b = b := by
  unfold accHi accLo wrap64; omega
theorem small_bit (y : Int) : accHi (y % 2) = 0 ∧ accLo (y % 2) = y % 2 := small_words _ (by omega) (by omega)
theorem lo_odd (x : Int) : bits .and .u64 (accLo x) 1 = x % 2 := by
  obtain ⟨l0, l1⟩ := accLo_bd x
  have h264 : (2 : Int) ^ 64 = 18446744073709551616 := by decide +kernel
  have := bits_mask .u64 64 (by decide) (fun n h0 h1 => by rw [IntKind.wrap_u64]; rw [h264] at h1; omega) 1 (by decide) (accLo x) l0 (by rw [h264]; omega)
  rw [show (2 : Int) ^ 1 - 1 = 1 from by decide] at this
  rw [this]
  unfold accLo
  omega
theorem acc_lo_field (a b : Int) (w : World) : (Instr.field 35 (.agg #[.int .i64 a, .int .u64 b]) 1).run Tryd.prog w = .ok (.int .u64 b) w := by kernel_rfl
set_option maxHeartbeats 2000000 in
theorem round_any (z : Int) (hz : In128 z) (s : Nat) (hs : 1 < s) (hs2 : s < 127) (w : World) : Calls Tryd.prog 105 #[accAgg z, .int .i64 s] w fun e w' => e = .returned (accAgg (rnd s z)) ∧ Below w.heap.size w w' := by
  have e0 : min (s : Int) 127 = (s : Int) := by omega
  have e1 : ¬ (s : Int) = 0 := by omega
  have h1 := shr_any z hz s (by omega) hs2
  have h2 := shr_any z hz (s - 1) (by omega) (by omega)
  rw [show ((s - 1 : Nat) : Int) = (s : Int) - 1 from by omega] at h2
  have h3 := plus_any (z / 2 ^ s) (z / 2 ^ (s - 1) % 2)
  obtain ⟨b1, b2⟩ := small_bit (z / 2 ^ (s - 1))
  unfold accAgg at h1 h2 h3 ⊢
  rw [b1, b2, ← lo_odd, show z / 2 ^ s + bits .and .u64 (accLo (z / 2 ^ (s - 1))) 1 = rnd s z from by rw [lo_odd]; rfl] at h3
  have H1 := Lib.hid h1
  have H2 := Lib.hid h2
  have H3 := Lib.hid h3
  clear h1 h2 h3 b1 b2 hz
  obtain ⟨u, hu⟩ : ∃ u : Int, (s : Int) - 1 = u := ⟨_, rfl⟩
  rw [hu] at H2
  have HU := Lib.hid hu
  clear hu
  have hfd := acc_lo_field
  have hw : ((s : Int) - 1 + 9223372036854775808) % 18446744073709551616 - 9223372036854775808 = (s : Int) - 1 := by omega
  go_enter Tryd.func105, Tryd.ntmps105
  go_wp2_with fail
  first | refine wp_region_grew2 11 (by kernel_rfl) (by kernel_rfl) ?_ | refine wp_region_grew 11 (by kernel_rfl) (by kernel_rfl) ?_
  simp only [List.take_succ_cons, List.take_zero, List.drop_succ_cons, List.drop_zero]
  repeat (go_big_quiet_step (first | (go_at_call 132; first | (rw [HU.out]; exact Calls.grew_of (H2.out _)) | exact Calls.grew_of (H1.out _)) | (go_at_call 109; exact Calls.grew_of (H3.out _))))
  refine wpQuiet_nil ?_
  rintro _ ⟨x, rfl⟩
  go_wp2_with fail
  refine bodyPost_ret (v := _) (by simp [results, Tryd.results105, go_sem]; rfl) rfl ⟨?_, ?_⟩
  · rfl
  · (repeat' (first | (with_reducible exact Below.refl _ _) | (with_reducible assumption) | (with_reducible refine Below.alloc ?_ ?_ _) | (with_reducible refine below_grew ?_ ?_ _) | (with_reducible refine Below.setCell ?_ ?_ _) | (with_reducible refine Below.drew ?_) | (with_reducible refine below_drewN ?_ _) | omega | (simp; done) | (simp; omega)))
set_option maxHeartbeats 2000000 in
theorem int_any (z : Int) (hz : In128 z) (w : World) : Calls Tryd.prog 133 #[accAgg z] w fun e w' => (In64 z → e = .returned (.tuple #[.int .i64 z, .bool true])) ∧ (¬ In64 z → e = .returned (.tuple #[.int .i64 0, .bool false])) ∧ Below w.heap.size w w' := by
  have hv64 : In64 (wrap64 (accLo z)) := by unfold In64 wrap64; omega
  have ho := of_any (wrap64 (accLo z)) hv64
  unfold accAgg at ho ⊢
  have HO := Lib.hid ho
  clear ho hv64
  by_cases h64 : In64 z
  · have ew : wrap64 (accLo z) = z := by unfold In64 at h64; unfold accLo wrap64; omega
    have EW := Lib.hid ew
    rw [ew] at HO
    clear ew
    go_enter Tryd.func133, Tryd.ntmps133
    go_wp2_with fail
    first | refine wp_region_grew_all2 (by kernel_rfl) (by kernel_rfl) ?_ | refine wp_region_grew_all (by kernel_rfl) (by kernel_rfl) ?_
    repeat (go_big_quiet_step (first | (go_at_call 59; rw [EW.out]; exact Calls.grew_of (HO.out _))))
    refine wpQuiet_nil ?_
    rintro _ ⟨x, rfl⟩
    go_wp2_with fail
    rw [EW.out]
    go_ret2
    exact ⟨fun _ => rfl, fun h => absurd h64 h, by (repeat' (first | (with_reducible exact Below.refl _ _) | (with_reducible assumption) | (with_reducible refine Below.alloc ?_ ?_ _) | (with_reducible refine below_grew ?_ ?_ _) | (with_reducible refine Below.setCell ?_ ?_ _) | (with_reducible refine Below.drew ?_) | (with_reducible refine below_drewN ?_ _) | omega | (simp; done) | (simp; omega)))⟩
  · have hne : ¬ accHi (wrap64 (accLo z)) = accHi z := by unfold In64 at h64; unfold In128 at hz; unfold accHi accLo wrap64; omega
    clear hz
    go_enter Tryd.func133, Tryd.ntmps133
    go_wp2_with fail
    first | refine wp_region_grew_all2 (by kernel_rfl) (by kernel_rfl) ?_ | refine wp_region_grew_all (by kernel_rfl) (by kernel_rfl) ?_
    repeat (go_big_quiet_step (first | (go_at_call 59; exact Calls.grew_of (HO.out _))))
    refine wpQuiet_nil ?_
    rintro _ ⟨x, rfl⟩
    go_wp2_with fail
    go_ret2
    exact ⟨fun h => absurd h h64, fun _ => rfl, by (repeat' (first | (with_reducible exact Below.refl _ _) | (with_reducible assumption) | (with_reducible refine Below.alloc ?_ ?_ _) | (with_reducible refine below_grew ?_ ?_ _) | (with_reducible refine Below.setCell ?_ ?_ _) | (with_reducible refine Below.drew ?_) | (with_reducible refine below_drewN ?_ _) | omega | (simp; done) | (simp; omega)))⟩
set_option maxHeartbeats 2000000 in
theorem sat_any (z : Int) (hz : In128 z) (w : World) : Calls Tryd.prog 107 #[accAgg z, .int .i64 32] w fun e w' => e = .returned (.int .i64 (clamp32 z)) ∧ Below w.heap.size w w' := by
  have hi := int_any z hz
  have HF := Lib.hid fixSat32
  have hneg : z < 0 ↔ accHi z < 0 := by rw [accHi_in hz]; omega
  unfold accAgg at hi ⊢
  have HI := Lib.hid hi
  clear hi hz
  by_cases h64 : In64 z
  · clear hneg
    go_enter Tryd.func107, Tryd.ntmps107
    go_wp2_with fail
    refine (HI.out _).mono ?_
    rintro e w1 ⟨h1, -, hb⟩
    obtain rfl := h1 h64
    have HB := Lib.hid (show Below w.heap.size w w1 from Below.trans (by (repeat' (first | (with_reducible exact Below.refl _ _) | (with_reducible assumption) | (with_reducible refine Below.alloc ?_ ?_ _) | (with_reducible refine below_grew ?_ ?_ _) | (with_reducible refine Below.setCell ?_ ?_ _) | (with_reducible refine Below.drew ?_) | (with_reducible refine below_drewN ?_ _) | omega | (simp; done) | (simp; omega)))) (hb.mono (by simp)))
    clear h1 hb
    go_wp2_with fail
    refine (HF.out _ _).mono ?_
    rintro e w2 ⟨rfl, hb⟩
    have HB2 := Lib.hid (HB.out.trans (hb.mono HB.out.size))
    clear hb
    go_wp2_with fail
    go_ret
    exact ⟨rfl, HB2.out⟩
  · have h64' := h64
    unfold In64 at h64'
    by_cases h0 : accHi z < 0
    · have e : clamp32 z = clamp32 (-9223372036854775808) := by unfold clamp32; omega
      rw [e]
      clear h64' e
      go_enter Tryd.func107, Tryd.ntmps107
      go_wp2_with fail
      refine (HI.out _).mono ?_
      rintro e w1 ⟨-, h1, hb⟩
      obtain rfl := h1 h64
      have hc := cell_blk (hb.block w.heap.size (by simp)) 0
      rw [(block_facts (alloc_at w _)).1] at hc
      have hlt : w.heap.size < w1.heap.size := Nat.lt_of_lt_of_le (by simp) hb.size
      have HB := Lib.hid (show Below w.heap.size w w1 from Below.trans (by (repeat' (first | (with_reducible exact Below.refl _ _) | (with_reducible assumption) | (with_reducible refine Below.alloc ?_ ?_ _) | (with_reducible refine below_grew ?_ ?_ _) | (with_reducible refine Below.setCell ?_ ?_ _) | (with_reducible refine Below.drew ?_) | (with_reducible refine below_drewN ?_ _) | omega | (simp; done) | (simp; omega)))) (hb.mono (by simp)))
      clear h1 hb
      go_wp2_with fail
      refine (HF.out _ _).mono ?_
      rintro e w2 ⟨rfl, hb⟩
      have HB2 := Lib.hid (HB.out.trans (hb.mono HB.out.size))
      clear hb
      go_wp2_with fail
      go_ret
      exact ⟨rfl, HB2.out⟩
    · have e : clamp32 z = clamp32 9223372036854775807 := by unfold clamp32; omega
      rw [e]
      clear h64' e
      go_enter Tryd.func107, Tryd.ntmps107
      go_wp2_with fail
      refine (HI.out _).mono ?_
      rintro e w1 ⟨-, h1, hb⟩
      obtain rfl := h1 h64
      have hc := cell_blk (hb.block w.heap.size (by simp)) 0
      rw [(block_facts (alloc_at w _)).1] at hc
      have hlt : w.heap.size < w1.heap.size := Nat.lt_of_lt_of_le (by simp) hb.size
      have HB := Lib.hid (show Below w.heap.size w w1 from Below.trans (by (repeat' (first | (with_reducible exact Below.refl _ _) | (with_reducible assumption) | (with_reducible refine Below.alloc ?_ ?_ _) | (with_reducible refine below_grew ?_ ?_ _) | (with_reducible refine Below.setCell ?_ ?_ _) | (with_reducible refine Below.drew ?_) | (with_reducible refine below_drewN ?_ _) | omega | (simp; done) | (simp; omega)))) (hb.mono (by simp)))
      clear h1 hb
      go_wp2_with fail
      refine (HF.out _ _).mono ?_
      rintro e w2 ⟨rfl, hb⟩
      have HB2 := Lib.hid (HB.out.trans (hb.mono HB.out.size))
      clear hb
      go_wp2_with fail
      go_ret
      exact ⟨rfl, HB2.out⟩
end Go.Proofs.YtcibajleknhklaaDoor
end

section
namespace Go.Proofs.YtcibajleknhklaaDoor
open Go.RowKit
set_option linter.unusedVariables false
variable {V V' : Type}
theorem wmul_assoc (a b c : Int × Int) : wmul a (wmul b c) = wmul (wmul a b) c := by
  unfold wmul
  simp only [Prod.mk.injEq, Int.mul_sub, Int.mul_add, Int.sub_mul, Int.add_mul, Int.mul_assoc]
  constructor <;> omega
theorem wmul_add' (p q w : Int × Int) : wmul (p.1 + q.1, p.2 + q.2) w = ((wmul p w).1 + (wmul q w).1, (wmul p w).2 + (wmul q w).2) := by
  unfold wmul
  simp only [Prod.mk.injEq, Int.add_mul]
  constructor <;> omega
/-- A number of s bits, turned about. -/
def revF : Nat → Nat → Nat
  | 0, _ => 0
  | s + 1, i => i % 2 * 2 ^ s + revF s (i / 2)
end Go.Proofs.YtcibajleknhklaaDoor
end

section
namespace Go.Proofs.YtcibajleknhklaaDoor
open Go.RowKit Go.BigFrame Go.Proofs.YtcibajleknhklaaDoorW.PrintWords Go.Proofs.YtcibajleknhklaaDoorW.PrintLast Go.Proofs.YtcibajleknhklaaDoorW.PrintMore
set_option linter.unusedSimpArgs false
set_option linter.unusedVariables false
set_option maxHeartbeats 2000000 in
theorem bigTimes_any (a b c d : Int) (hc : In64 c) (hd : In64 d) (w : World) :
    Calls Tryd.prog 102 #[bigAgg a b, pairAgg (c, d)] w fun e w' => e = .returned (bigAgg (a * c - b * d) (a * d + b * c)) ∧ Below w.heap.size w w' := by
  have m1 := accTimes_any
  have p1 := plus_any
  have p2 := minus_any
  unfold accAgg at m1 p1 p2
  have M1 := Lib.hid m1
  have P1 := Lib.hid p1
  have P2 := Lib.hid p2
  clear m1 p1 p2
  unfold bigAgg pairAgg
  go_enter Tryd.func102, Tryd.ntmps102
  go_wp2
  first | refine wp_region_grew2 23 (by kernel_rfl) (by kernel_rfl) ?_ | refine wp_region_grew 23 (by kernel_rfl) (by kernel_rfl) ?_
  simp only [List.take_succ_cons, List.take_zero, List.drop_succ_cons, List.drop_zero]
  repeat (go_big_quiet_step (first | (go_at_call 131; refine Calls.grew_of (M1.out _ _ ?_ _) <;> assumption) | (go_at_call 109; exact Calls.grew_of (P1.out _ _ _)) | (go_at_call 111; exact Calls.grew_of (P2.out _ _ _))))
  refine wpQuiet_nil ?_
  rintro _ ⟨x, rfl⟩
  go_wp2
  refine bodyPost_ret (v := _) (by simp [results, Tryd.results102, go_sem]; rfl) rfl ⟨?_, ?_⟩
  · rfl
  · (repeat' (first | (with_reducible exact Below.refl _ _) | (with_reducible assumption) | (with_reducible refine Below.alloc ?_ ?_ _) | (with_reducible refine below_grew ?_ ?_ _) | (with_reducible refine Below.setCell ?_ ?_ _) | (with_reducible refine Below.drew ?_) | (with_reducible refine below_drewN ?_ _) | omega | (simp; done) | (simp; omega)))
def kB (j : Nat) : IntKind := if j % 2 = 0 then .i64 else .u64
abbrev BigT := 37
end Go.Proofs.YtcibajleknhklaaDoor
end

section
namespace Go.Proofs.YtcibajleknhklaaDoor
open Go.RowKit Go.BigFrame Go.Proofs.YtcibajleknhklaaDoorW.PrintWords Go.Proofs.YtcibajleknhklaaDoorW.PrintLast Go.Proofs.YtcibajleknhklaaDoorW.PrintMore
set_option linter.unusedSimpArgs false
set_option linter.unusedVariables false
/-- Block g has been written, and blocks have been made. -/
structure Upd (g : Nat) (w w' : World) : Prop where
  os : w'.os = w.os
  tape : w'.tape = w.tape
  output : w'.output = w.output
  size : w.heap.size ≤ w'.heap.size
  block : ∀ k, k < w.heap.size → k ≠ g → w'.heap[k]? = w.heap[k]?
theorem Upd.refl (g : Nat) (w : World) : Upd g w w := ⟨rfl, rfl, rfl, Nat.le_refl _, fun _ _ _ => rfl⟩
theorem Upd.trans {g : Nat} {a b c : World} (h : Upd g a b) (k : Upd g b c) : Upd g a c :=
  ⟨k.os.trans h.os, k.tape.trans h.tape, k.output.trans h.output, Nat.le_trans h.size k.size, fun i hi hne => (k.block i (Nat.lt_of_lt_of_le hi h.size) hne).trans (h.block i hi hne)⟩
theorem Upd.of_below {g : Nat} {a b : World} (h : Below a.heap.size a b) : Upd g a b := ⟨h.os, h.tape, h.output, h.size, fun k hk _ => h.block k hk⟩
theorem Upd.of_only {g : Nat} {a b : World} (h : Only g a b) : Upd g a b := ⟨h.os, h.tape, h.output, Nat.le_of_eq h.size.symm, fun k _ hne => h.block k hne⟩
/-- The turns of a plan. -/
structure TurnsW (pb tb m tc g : Nat) (T : Nat → Int × Int) (w : World) : Prop where
  pbn : pb ≠ g
  tbn : tb ≠ g
  pbl : pb < w.heap.size
  tbl : tb < w.heap.size
  sl : w.cell? ⟨pb, 1, none⟩ = some (.slice (some ⟨tb, 0, none⟩) m tc)
  at0 : ∀ k, k < m → w.cell? ⟨tb, k * 2, none⟩ = some (.int .i64 (T k).1) ∧ w.cell? ⟨tb, k * 2 + 1, none⟩ = some (.int .i64 (T k).2)
theorem cell_of_block {w w' : World} {b : Nat} (h : w'.heap[b]? = w.heap[b]?) (o : Nat) : w'.cell? ⟨b, o, none⟩ = w.cell? ⟨b, o, none⟩ := by unfold World.cell?; rw [h]
theorem TurnsW.upd {pb tb m tc g : Nat} {T : Nat → Int × Int} {w w' : World} (h : TurnsW pb tb m tc g T w) (hu : Upd g w w') : TurnsW pb tb m tc g T w' :=
  ⟨h.pbn, h.tbn, Nat.lt_of_lt_of_le h.pbl hu.size, Nat.lt_of_lt_of_le h.tbl hu.size, (cell_of_block (hu.block _ h.pbl h.pbn) 1).trans h.sl,
    fun k hk => ⟨(cell_of_block (hu.block _ h.tbl h.tbn) _).trans (h.at0 k hk).1, (cell_of_block (hu.block _ h.tbl h.tbn) _).trans (h.at0 k hk).2⟩⟩
/-- One step of the last region: block g keeps its content, or comes to hold F1. -/
structure TG (g N : Nat) (F F1 : Nat → Int) (W W' : World) : Prop where
  upd : Upd g W W'
  keep : Bx g BigT kB N F W → Bx g BigT kB N F W' ∨ Bx g BigT kB N F1 W'
  new : Bx g BigT kB N F1 W → Bx g BigT kB N F1 W'
theorem TG.of_below {g N : Nat} {F F1 : Nat → Int} {W W' : World} (h : Below W.heap.size W W') : TG g N F F1 W W' :=
  ⟨Upd.of_below h, fun hb => .inl (hb.keep h), fun hb => hb.keep h⟩
abbrev CG (g N : Nat) (F F1 : Nat → Int) (Y W : World) : Prop := Upd g Y W ∧ (Bx g BigT kB N F W ∨ Bx g BigT kB N F1 W)
theorem CG.step {g N : Nat} {F F1 : Nat → Int} {Y W W' : World} (h : CG g N F F1 Y W) (t : TG g N F F1 W W') : CG g N F F1 Y W' :=
  ⟨h.1.trans t.upd, h.2.elim t.keep (fun h => .inr (t.new h))⟩
end Go.Proofs.YtcibajleknhklaaDoor
end

section
namespace Go.Proofs.YtcibajleknhklaaDoor
open Go.RowKit Go.BigFrame Go.Proofs.YtcibajleknhklaaDoorW.PrintWords Go.Proofs.YtcibajleknhklaaDoorW.PrintLast Go.Proofs.YtcibajleknhklaaDoorW.PrintMore
open PFftOrders
set_option linter.unusedSimpArgs false
set_option linter.unusedVariables false
def kI (j : Nat) : IntKind := .i64
/-- 'make([]T, n)': the block as it stands. -/
theorem make_block {P : Program} (w : World) {ops : Array Oper} {rest : List Oper} {o : Oper} {a : Act} {Q : Exit → Act → World → Prop}
    (hg : o.guard = none) (l c : Operand) (t : TypeId) (hop : o.op = Op.makeSlice t l c)
    (e : TypeId) (z : Value) (size bytes : Nat) (h1 : P.underlying t = some (.slice e)) (hi : (P.info? e).map (fun i => (i.zero, i.size, i.bytes)) = some (some z, size, bytes))
    (n : Nat) (hl : a.eval l = .int .i64 (n : Int)) (hc : a.eval c = .int .i64 (n : Int)) (b2 : bytes * n ≤ 281474976710656) (hn : n ≤ 1000000) (k : Nat → IntKind) (hz : ∀ i, z.cells[i % z.cells.size]! = .int (k i) 0)
    (hK : wpList P ops Q rest (a.put o.dst (.slice (some ⟨w.heap.size, 0, none⟩) n n)) (w.alloc (.cells (ag k (n * size) fun _ => 0) e))) :
    wpList P ops Q (o :: rest) a w := by
  refine wpList_plain hg fun K hK' => ?_
  obtain ⟨i, h2, h3, h4, h5⟩ := info_parts hi
  have hrun := run_make (P := P) w t e i z h1 h2 h3 .i64 .i64 n n (by omega) (Int.le_refl _) (by rw [h5, ← Int.natCast_mul]; omega) (by omega)
  have em : madeCells z.cells (n * size) = ag k (n * size) fun _ => 0 := by
    unfold madeCells ag
    apply Array.ext'
    simp only [Array.toList_map, Array.toList_range]
    exact List.map_congr_left fun i _ => hz i
  rw [h4, Int.toNat_natCast, em] at hrun
  unfold Oper.wp
  simp [execOp, hop, hl, hc, hrun, Result.andThen]
  exact hK' _ _ hK
end Go.Proofs.YtcibajleknhklaaDoor
end

section
namespace Go.Proofs.YtcibajleknhklaaDoor
open Go.RowKit Go.BigFrame Go.Proofs.YtcibajleknhklaaDoorW.PrintWords Go.Proofs.YtcibajleknhklaaDoorW.PrintLast Go.Proofs.YtcibajleknhklaaDoorW.PrintMore
set_option linter.unusedSimpArgs false
set_option linter.unusedVariables false
/-- Blocks below B stay; of the others one alone may be written, and rows that were begun as tn tells stay rows. -/
structure AT (B : Nat) (e : TypeId) (sz : Nat) (g : Option Nat) (tn : Nat → List Value) (m : Nat) (W W' : World) : Prop where
  below : Below B W W'
  grow : W.grownBy W' g
  keep : ∀ v j, j ≤ m → W.ownsRow B e sz v j (tn j) → W'.ownsRow B e sz v j (tn j)
theorem AT.of_below {B e sz g tn m} {W W' : World} (h : Below W.heap.size W W') (hB : B ≤ W.heap.size) : AT B e sz g tn m W W' :=
  ⟨h.mono hB, ⟨h.os, h.tape, h.output, h.size, fun k hk _ => h.block k hk⟩, fun _ _ _ ho => ownsRow_below ho h⟩
theorem AT.trans {B e sz g tn m} {W W1 W2 : World} (h : AT B e sz g tn m W W1) (k : AT B e sz g tn m W1 W2) : AT B e sz g tn m W W2 :=
  ⟨h.below.trans k.below, ⟨k.grow.os.trans h.grow.os, k.grow.tape.trans h.grow.tape, k.grow.output.trans h.grow.output, Nat.le_trans h.grow.size k.grow.size,
    fun i hi hg => (k.grow.block i (Nat.lt_of_lt_of_le hi h.grow.size) hg).trans (h.grow.block i hi hg)⟩, fun v j hj ho => k.keep v j hj (h.keep v j hj ho)⟩
end Go.Proofs.YtcibajleknhklaaDoor
end

section
namespace Go.Proofs.YtcibajleknhklaaDoor
open Go.RowKit Go.BigFrame Go.Proofs.YtcibajleknhklaaDoorW.PrintWords Go.Proofs.YtcibajleknhklaaDoorW.PrintLast Go.Proofs.YtcibajleknhklaaDoorW.PrintMore
open PFftOrders
set_option linter.unusedSimpArgs false
set_option linter.unusedVariables false
def pairCells (p : Int × Int) : List Value := [.int .i64 p.1, .int .i64 p.2]
def turnsTo (n k : Nat) : List Value := ((List.range k).map fun i : Nat => turnF ((i : Int) * 256 / (n : Int))).flatMap pairCells
theorem pairInfo : (Tryd.prog.info? 49).map (fun i => (i.zero, i.size, i.bytes)) = some (some (.agg #[.int .i64 0, .int .i64 0]), 2, 16) := by kernel_rfl
end Go.Proofs.YtcibajleknhklaaDoor
end

section
namespace Go.Proofs.YtcibajleknhklaaDoor
open Go.RowKit Go.BigFrame Go.Proofs.YtcibajleknhklaaDoorW.PrintWords Go.Proofs.YtcibajleknhklaaDoorW.PrintLast Go.Proofs.YtcibajleknhklaaDoorW.PrintMore
open PFftOrders
set_option linter.unusedSimpArgs false
set_option linter.unusedVariables false
/-- A plan: its struct at pb, its order at ob, its turns in the row tv. -/
structure PlanR (pb ob : Nat) (tv : Value) (s : Nat) (w : World) : Prop where
  ne : pb ≠ ob
  st : w.heap[pb]? = some (.cells #[.slice (some ⟨ob, 0, none⟩) (2 ^ s) (2 ^ s), tv] 130 (0, 0))
  ord : Bx ob 3 kI (2 ^ s) (fun j => (revF s j : Int)) w
  own : w.ownsRow 0 49 2 tv (2 ^ s / 2) (turnsTo (2 ^ s) (2 ^ s / 2))
theorem PlanR.keep {pb ob s : Nat} {tv : Value} {w w' : World} (h : PlanR pb ob tv s w) (hb : Below w.heap.size w w') : PlanR pb ob tv s w' :=
  ⟨h.ne, (hb.block pb (block_facts h.st).2.2).trans h.st, h.ord.keep hb, ownsRow_below h.own hb⟩
theorem PlanR.upd {pb ob s g : Nat} {tv : Value} {w w' : World} (h : PlanR pb ob tv s w) (hu : Upd g w w') (h1 : pb ≠ g) (h2 : ob ≠ g) (h3 : some g ≠ tv.ownBlock) : PlanR pb ob tv s w' := by
  refine ⟨h.ne, (hu.block pb (block_facts h.st).2.2 h1).trans h.st, (hu.block ob (block_facts h.ord).2.2 h2).trans h.ord, ?_⟩
  obtain ⟨a, b | ⟨g', cap, cur, b1, b2, b3, b4⟩⟩ := h.own
  · exact ⟨a, .inl b⟩
  · exact ⟨a, .inr ⟨g', cap, cur, b1, b2, (hu.block g' (Array.getElem?_eq_some_iff.1 b3).1 (fun e => h3 (by rw [b1, e]; rfl))).trans b3, b4⟩⟩
end Go.Proofs.YtcibajleknhklaaDoor
end

section
namespace Go.Proofs.YtcibajleknhklaaDoor
open Go.RowKit Go.BigFrame Go.Proofs.YtcibajleknhklaaDoorW.PrintWords Go.Proofs.YtcibajleknhklaaDoorW.PrintLast Go.Proofs.YtcibajleknhklaaDoorW.PrintMore
set_option linter.unusedSimpArgs false
set_option linter.unusedVariables false
theorem own_cells {w : World} {base : Nat} {e : TypeId} {size n : Nat} {v : Value} {xs : List Value} (h : w.ownsRow base e size v n xs) (hn : 0 < n) :
    ∃ g c, v = .slice (some ⟨g, 0, none⟩) n c ∧ g < w.heap.size ∧ base ≤ g ∧ ∀ j, j < n * size → w.cell? ⟨g, j, none⟩ = xs[j]? := by
  obtain ⟨h1, h2⟩ := h
  rcases h2 with ⟨_, h2⟩ | ⟨g, cap, cur, hv, hg, hh, hc1, hc2, hc3, hc4⟩
  · omega
  · refine ⟨g, cap, hv, (Array.getElem?_eq_some_iff.1 hh).1, hg, fun j hj => ?_⟩
    rw [cell_of_row w g j cur e _ hh, ← hc4, List.getElem?_take, if_pos hj]
    simp
theorem bigs_at (f : Nat → Int × Int) : ∀ n j i, j < n → i < 4 → (((List.range n).map f).flatMap bigCells)[j * 4 + i]? = (bigCells (f j))[i]?
  | 0, j, i, h, _ => absurd h (by omega)
  | n + 1, j, i, h, hi => by
    have hl : ∀ m, (((List.range m).map f).flatMap bigCells).length = m * 4 := fun m => by
      induction m with
      | zero => rfl
      | succ m ih => rw [List.range_succ, List.map_append, List.flatMap_append, List.length_append, ih]; simp [bigCells]; omega
    rw [List.range_succ, List.map_append, List.flatMap_append]
    by_cases e : j < n
    · rw [List.getElem?_append_left (by rw [hl]; omega)]
      exact bigs_at f n j i e hi
    · obtain rfl : j = n := by omega
      rw [List.getElem?_append_right (by rw [hl]; omega), hl]
      simp [show j * 4 + i - j * 4 = i by omega]
end Go.Proofs.YtcibajleknhklaaDoor
end

section
namespace Go.Proofs.YtcibajleknhklaaDoor
open Go.RowKit Go.BigFrame Go.Proofs.YtcibajleknhklaaDoorW.PrintWords Go.Proofs.YtcibajleknhklaaDoorW.PrintLast Go.Proofs.YtcibajleknhklaaDoorW.PrintMore
set_option linter.unusedSimpArgs false
set_option linter.unusedVariables false
/-- The pair of a spectrum at a place. -/
def dctPair (n : Nat) (x : Nat → Int) (j : Nat) : Int × Int := wmul (x (2 * j), x (n - 1 - 2 * j)) (turnF (((4 * j + 1) * 32 / n : Nat) : Int))
def dctZ (s : Nat) (x : Nat → Int) : List (Int × Int) := (List.range (2 ^ s)).map (dctPair (2 ^ (s + 1)) x)
def dctY (s : Nat) (x : Nat → Int) (k : Nat) : Int × Int := wmul (sumTo s (dctZ s x) k (2 ^ s)) (turnF ((k * 128 / 2 ^ (s + 1) : Nat) : Int))
def dctSh (s : Nat) : Nat := 12 * (s + 2)
def dctF (s : Nat) (x : Nat → Int) (i : Nat) : Int := if i % 2 = 0 then clamp32 (rnd (dctSh s) (dctY s x (i / 2)).1) else clamp32 (rnd (dctSh s) (-(dctY s x ((2 ^ (s + 1) - 1 - i) / 2)).2))
/-- A row of 32 bit numbers in a block. -/
def R32 (g N n : Nat) (T : TypeId) (f : Nat → Int) (w : World) : Prop := ∃ cs, w.heap[g]? = some (.cells cs T (0, 0)) ∧ cs.size = N ∧ ∀ i, i < n → cs[i]? = some (.int .i32 (f i))
theorem R32.lt {g N n T f} {w : World} (h : R32 g N n T f w) : g < w.heap.size := by obtain ⟨cs, h1, -, _⟩ := h; exact (block_facts h1).2.2
theorem R32.cell {g N n T f} {w : World} (h : R32 g N n T f w) (i : Nat) (hi : i < n) : w.cell? ⟨g, i, none⟩ = some (.int .i32 (f i)) ∧ w.frozen? ⟨g, i, none⟩ = false := by
  obtain ⟨cs, h1, hN, h2⟩ := h
  exact ⟨by rw [(block_facts h1).1]; exact h2 i hi, (block_facts h1).2.1 i⟩
theorem R32.block {g N n T f} {w w' : World} (h : R32 g N n T f w) (e : w'.heap[g]? = w.heap[g]?) : R32 g N n T f w' := by
  obtain ⟨cs, h1, hN, h2⟩ := h
  exact ⟨cs, e.trans h1, hN, h2⟩
theorem R32.keep {g N n T f} {w w' : World} (h : R32 g N n T f w) (hb : Below w.heap.size w w') : R32 g N n T f w' := h.block (hb.block g h.lt)
theorem R32.set {g N n T f} {w : World} (h : R32 g N n T f w) (i : Nat) (x : Int) : R32 g N n T (updI f i x) (w.setCell ⟨g, i, none⟩ (.int .i32 x)) := by
  obtain ⟨cs, h1, hN, h2⟩ := h
  refine ⟨_, setCell_own w g i cs T (0, 0) _ h1, by rw [Array.size_setIfInBounds]; exact hN, fun j hj => ?_⟩
  unfold updI
  by_cases e : j = i
  · subst e
    rw [if_pos rfl, Array.getElem?_setIfInBounds, if_pos rfl, if_pos (Array.getElem?_eq_some_iff.1 (h2 j hj)).1]
  · rw [if_neg e, Array.getElem?_setIfInBounds, if_neg (Ne.symm e)]
    exact h2 j hj
theorem R32.of_bx {g n : Nat} {T : TypeId} {f : Nat → Int} {w : World} (h : Bx g T (fun _ => .i32) n f w) : R32 g n n T f w := ⟨_, h, ag_size _ _ _, fun i hi => ag_get _ _ _ _ hi⟩
theorem R32.to_bx {g n : Nat} {T : TypeId} {f : Nat → Int} {w : World} (h : R32 g n n T f w) : Bx g T (fun _ => .i32) n f w := by
  obtain ⟨cs, h1, hN, h2⟩ := h
  have e : cs = ag (fun _ => .i32) n f := by
    apply Array.ext
    · rw [hN, ag_size]
    · intro i hi1 hi2
      have h3 := h2 i (by omega)
      have h4 := ag_get (fun _ => IntKind.i32) n f i (by omega)
      rw [← h4] at h3
      have := (Array.getElem?_eq_getElem hi1).symm.trans (h3.trans (Array.getElem?_eq_getElem hi2))
      exact Option.some.inj this
  rw [Bx, h1, e]
theorem R32.ext {g N n : Nat} {T : TypeId} {f f' : Nat → Int} {w : World} (h : R32 g N n T f w) (e : ∀ i, i < n → f i = f' i) : R32 g N n T f' w := by
  obtain ⟨cs, h1, hN, h2⟩ := h
  exact ⟨cs, h1, hN, fun i hi => by rw [← e i hi]; exact h2 i hi⟩
/-- There are three lengths. -/
theorem dct_s (s : Nat) (h1 : 2 ≤ s) (h2 : s ≤ 4) : s = 2 ∨ s = 3 ∨ s = 4 := by omega
theorem there_dct (s : Nat) (h1 : 2 ≤ s) (h2 : s ≤ 4) (w : World) : Calls Tryd.prog 65 #[.int .i64 ((2 ^ (s + 1) : Nat) : Int)] w fun e w' => e = .returned (.bool true) ∧ Below w.heap.size w w' := by
  have e8 : bits .and .i64 8 7 = 0 := by decide +kernel
  have e16 : bits .and .i64 16 15 = 0 := by decide +kernel
  have e32 : bits .and .i64 32 31 = 0 := by decide +kernel
  rcases dct_s s h1 h2 with rfl | rfl | rfl
  · show Calls Tryd.prog 65 #[.int .i64 8] w _
    go_enter Tryd.func65, Tryd.ntmps65
    go_wp2
    go_ret
    exact ⟨rfl, by (repeat' (first | (with_reducible exact Below.refl _ _) | (with_reducible assumption) | (with_reducible refine Below.alloc ?_ ?_ _) | (with_reducible refine below_grew ?_ ?_ _) | (with_reducible refine Below.setCell ?_ ?_ _) | (with_reducible refine Below.drew ?_) | (with_reducible refine below_drewN ?_ _) | omega | (simp; done) | (simp; omega)))⟩
  · show Calls Tryd.prog 65 #[.int .i64 16] w _
    go_enter Tryd.func65, Tryd.ntmps65
    go_wp2
    go_ret
    exact ⟨rfl, by (repeat' (first | (with_reducible exact Below.refl _ _) | (with_reducible assumption) | (with_reducible refine Below.alloc ?_ ?_ _) | (with_reducible refine below_grew ?_ ?_ _) | (with_reducible refine Below.setCell ?_ ?_ _) | (with_reducible refine Below.drew ?_) | (with_reducible refine below_drewN ?_ _) | omega | (simp; done) | (simp; omega)))⟩
  · show Calls Tryd.prog 65 #[.int .i64 32] w _
    go_enter Tryd.func65, Tryd.ntmps65
    go_wp2
    go_ret
    exact ⟨rfl, by (repeat' (first | (with_reducible exact Below.refl _ _) | (with_reducible assumption) | (with_reducible refine Below.alloc ?_ ?_ _) | (with_reducible refine below_grew ?_ ?_ _) | (with_reducible refine Below.setCell ?_ ?_ _) | (with_reducible refine Below.drew ?_) | (with_reducible refine below_drewN ?_ _) | omega | (simp; done) | (simp; omega)))⟩
theorem shift_any (s : Nat) (h1 : 2 ≤ s) (h2 : s ≤ 4) (w : World) : Calls Tryd.prog 106 #[.int .i64 ((2 ^ (s + 1) : Nat) : Int)] w fun e w' => e = .returned (.int .i64 (dctSh s : Int)) ∧ w = w' := by
  have l8 : Lib.bitLen (8 : Int).toNat = 4 := by decide +kernel
  have l16 : Lib.bitLen (16 : Int).toNat = 5 := by decide +kernel
  have l32 : Lib.bitLen (32 : Int).toNat = 6 := by decide +kernel
  have q8 := Lib.hid (fun w => len_any 8 w (by decide) (by decide))
  have q16 := Lib.hid (fun w => len_any 16 w (by decide) (by decide))
  have q32 := Lib.hid (fun w => len_any 32 w (by decide) (by decide))
  rw [l8] at q8
  rw [l16] at q16
  rw [l32] at q32
  have u8 : IntKind.u64.wrap 8 = 8 := by decide
  have u16 : IntKind.u64.wrap 16 = 16 := by decide
  have u32 : IntKind.u64.wrap 32 = 32 := by decide
  clear l8 l16 l32
  rcases dct_s s h1 h2 with rfl | rfl | rfl
  · show Calls Tryd.prog 106 #[.int .i64 8] w _
    go_enter Tryd.func106, Tryd.ntmps106
    go_wp2_with fail
    refine (q8.out _).mono ?_
    rintro e w' ⟨rfl, rfl⟩
    go_wp2_with fail
    go_ret
    exact ⟨rfl, rfl⟩
  · show Calls Tryd.prog 106 #[.int .i64 16] w _
    go_enter Tryd.func106, Tryd.ntmps106
    go_wp2_with fail
    refine (q16.out _).mono ?_
    rintro e w' ⟨rfl, rfl⟩
    go_wp2_with fail
    go_ret
    exact ⟨rfl, rfl⟩
  · show Calls Tryd.prog 106 #[.int .i64 32] w _
    go_enter Tryd.func106, Tryd.ntmps106
    go_wp2_with fail
    refine (q32.out _).mono ?_
    rintro e w' ⟨rfl, rfl⟩
    go_wp2_with fail
    go_ret
    exact ⟨rfl, rfl⟩
set_option maxHeartbeats 2000000 in
set_option maxRecDepth 100000 in
theorem pair_any (s : Nat) (h1 : 2 ≤ s) (h2 : s ≤ 4) (b off c : Nat) (x : Nat → Int) (w : World) (hT : CosW w) (hb : b < w.heap.size)
    (hx : ∀ i, i < 2 ^ (s + 1) → w.cell? ⟨b, off + i, none⟩ = some (.int .i32 (x i)) ∧ (-2147483648 ≤ x i ∧ x i ≤ 2147483647)) (j : Nat) (hj : j < 2 ^ s) :
    Calls Tryd.prog 66 #[.slice (some ⟨b, off, none⟩) (2 ^ (s + 1)) c, .int .i64 j] w fun e w' => e = .returned (pairAgg (dctPair (2 ^ (s + 1)) x j)) ∧ Below w.heap.size w w' := by
  obtain ⟨n, hn⟩ : ∃ n : Nat, 2 ^ (s + 1) = n := ⟨_, rfl⟩
  have hnh : n = 2 ^ s + 2 ^ s := by rw [← hn, Nat.pow_succ]; omega
  have hn8 : 8 ≤ n ∧ n ≤ 32 := by
    rcases dct_s s h1 h2 with rfl | rfl | rfl <;> (rw [← hn]; decide)
  rw [hn] at hx ⊢
  obtain ⟨e, he⟩ : ∃ e : Nat, 2 * j = e := ⟨_, rfl⟩
  obtain ⟨o, ho⟩ : ∃ o : Nat, n - 1 - e = o := ⟨_, rfl⟩
  have hen : e < n := by omega
  have hon : o < n := by omega
  obtain ⟨c0, p0⟩ := hx e hen
  obtain ⟨c1, p1⟩ := hx o hon
  obtain ⟨q, hq⟩ : ∃ q : Nat, (4 * j + 1) * 32 / n = q := ⟨_, rfl⟩
  have hje : 2 * (j : Int) = (e : Int) := by omega
  have hoe : (n : Int) - 1 - (e : Int) = (o : Int) := by omega
  have hqq : (4 * (j : Int) + 1) * 32 / (n : Int) = (q : Int) := by rw [← hq]; simp
  have HQQ := Lib.hid hqq
  clear hqq
  have hdp : dctPair n x j = wmul (x e, x o) (turnF (q : Int)) := by
    unfold dctPair
    rw [hq, he, ho]
  rw [hdp]
  have hte := times_exact (x e, x o) (turnF (q : Int)) (by unfold small; simp only; omega) (turnF_small _)
  have ht := times_any (x e, x o) (turnF (q : Int))
  rw [hte] at ht
  obtain ⟨P, hP⟩ : ∃ P, wmul (x e, x o) (turnF (q : Int)) = P := ⟨_, rfl⟩
  rw [hP] at ht ⊢
  have hu := fun w h => turn_any (q : Int) w h
  obtain ⟨T, hTT⟩ : ∃ T, turnF (q : Int) = T := ⟨_, rfl⟩
  rw [hTT] at ht hu
  generalize x e = xe at *
  generalize x o = xo at *
  unfold pairAgg at ht hu ⊢
  have HTM := Lib.hid ht
  have HTU := Lib.hid hu
  have HC := Lib.hid hT
  have he0 : (0 : Int) ≤ e := by omega
  have ho0 : (0 : Int) ≤ o := by omega
  have hen' : (e : Int) < n := by omega
  have hon' : (o : Int) < n := by omega
  have hn0 : ¬ n = 0 := by omega
  have w1 : (((e : Int)) + 9223372036854775808) % 18446744073709551616 - 9223372036854775808 = (e : Int) := by omega
  have w2 : (((n : Int) - 1) + 9223372036854775808) % 18446744073709551616 - 9223372036854775808 = (n : Int) - 1 := by omega
  have w3 : (((o : Int)) + 9223372036854775808) % 18446744073709551616 - 9223372036854775808 = (o : Int) := by omega
  have w4 : ((4 * (j : Int)) + 9223372036854775808) % 18446744073709551616 - 9223372036854775808 = 4 * (j : Int) := by omega
  have w5 : ((4 * (j : Int) + 1) + 9223372036854775808) % 18446744073709551616 - 9223372036854775808 = 4 * (j : Int) + 1 := by omega
  have w6 : (((4 * (j : Int) + 1) * 32) + 9223372036854775808) % 18446744073709551616 - 9223372036854775808 = (4 * (j : Int) + 1) * 32 := by omega
  clear hx hq hte hdp hP hTT ht hu hT hn hnh he ho
  go_enter Tryd.func66, Tryd.ntmps66
  go_wp2_with fail
  first | refine wp_region_grew2 24 (by kernel_rfl) (by kernel_rfl) ?_ | refine wp_region_grew 24 (by kernel_rfl) (by kernel_rfl) ?_
  simp only [List.take_succ_cons, List.take_zero, List.drop_succ_cons, List.drop_zero]
  repeat (go_big_quiet_step (first | (go_at_call 61; rw [HQQ.out]; refine Calls.grew_of (HTU.out _ ?_); exact HC.out.below (by (repeat' (first | (with_reducible exact Below.refl _ _) | (with_reducible assumption) | (with_reducible refine Below.alloc ?_ ?_ _) | (with_reducible refine below_grew ?_ ?_ _) | (with_reducible refine Below.setCell ?_ ?_ _) | (with_reducible refine Below.drew ?_) | (with_reducible refine below_drewN ?_ _) | omega | (simp; done) | (simp; omega))))) | (go_at_call 104; exact Calls.grew_of (HTM.out _))))
  refine wpQuiet_nil ?_
  rintro _ ⟨x, rfl⟩
  go_wp2_with fail
  refine bodyPost_ret (v := _) (by simp [results, Tryd.results66, go_sem]; rfl) rfl ⟨?_, ?_⟩
  · rfl
  · (repeat' (first | (with_reducible exact Below.refl _ _) | (with_reducible assumption) | (with_reducible refine Below.alloc ?_ ?_ _) | (with_reducible refine below_grew ?_ ?_ _) | (with_reducible refine Below.setCell ?_ ?_ _) | (with_reducible refine Below.drew ?_) | (with_reducible refine below_drewN ?_ _) | omega | (simp; done) | (simp; omega)))
theorem rnd_in (s : Nat) (hs : 0 < s) {z : Int} (h : In128 z) : In128 (rnd s z) := by
  have h1 : In128 (z / 2) := by unfold In128 at *; omega
  have hp : (0 : Int) < 2 ^ (s - 1) := Int.pow_pos (by decide)
  have e : z / 2 ^ s = z / 2 / 2 ^ (s - 1) := by
    rw [Int.ediv_ediv_of_nonneg (by decide), show (2 : Int) * 2 ^ (s - 1) = 2 ^ s from by
      conv => rhs; rw [show s = 1 + (s - 1) from by omega, Int.pow_add]
      rfl]
  have h2 : -85070591730234615865843651857942052864 ≤ z / 2 / 2 ^ (s - 1) ∧ z / 2 / 2 ^ (s - 1) < 85070591730234615865843651857942052864 := by
    have hz2 : -85070591730234615865843651857942052864 ≤ z / 2 ∧ z / 2 < 85070591730234615865843651857942052864 := by unfold In128 at h; omega
    constructor
    · refine Int.le_ediv_of_mul_le hp ?_
      have h1 : (1 : Int) ≤ 2 ^ (s - 1) := hp
      have := Int.mul_le_mul_of_nonneg_left h1 (show (0 : Int) ≤ 85070591730234615865843651857942052864 by decide)
      omega
    · by_cases h0 : 0 ≤ z / 2
      · exact Int.lt_of_le_of_lt (Int.ediv_le_self _ h0) hz2.2
      · have : z / 2 / 2 ^ (s - 1) < 0 := Int.ediv_neg_of_neg_of_pos (by omega) hp
        omega
  unfold rnd
  rw [e]
  generalize z / 2 / 2 ^ (s - 1) = u at *
  generalize z / 2 ^ (s - 1) = v
  unfold In128
  omega
theorem clamp_i32 (v : Int) : IntKind.i32.wrap (clamp32 v) = clamp32 v := by
  rw [IntKind.wrap_i32]; unfold clamp32; omega
set_option maxHeartbeats 2000000 in
set_option maxRecDepth 100000 in
theorem put_any (s : Nat) (h1 : 2 ≤ s) (h2 : s ≤ 4) (g N c : Nat) (T : TypeId) (f : Nat → Int) (S tu : Int × Int) (w : World) (hR : R32 g N (2 ^ (s + 1)) T f w) (hc64 : In64 tu.1 ∧ In64 tu.2)
    (hy1 : In128 (wmul S tu).1) (hy2 : In128 (-(wmul S tu).2)) (k : Nat) (hk : k < 2 ^ s) :
    Calls Tryd.prog 67 #[.slice (some ⟨g, 0, none⟩) (2 ^ (s + 1)) c, .int .i64 k, bigAgg S.1 S.2, pairAgg tu] w fun e w' => e = .returned (.tuple #[]) ∧ Upd g w w' ∧
      R32 g N (2 ^ (s + 1)) T (updI (updI f (2 * k) (clamp32 (rnd (dctSh s) (wmul S tu).1))) (2 ^ (s + 1) - 1 - 2 * k) (clamp32 (rnd (dctSh s) (-(wmul S tu).2)))) w' := by
  have hsh : dctSh s = 12 * (s + 2) := rfl
  have hS := fun w => shift_any s h1 h2 w
  obtain ⟨n, hn⟩ : ∃ n : Nat, 2 ^ (s + 1) = n := ⟨_, rfl⟩
  have hnh : n = 2 ^ s + 2 ^ s := by rw [← hn, Nat.pow_succ]; omega
  have hn8 : 8 ≤ n ∧ n ≤ 32 := by
    rcases dct_s s h1 h2 with rfl | rfl | rfl <;> (rw [← hn]; decide)
  rw [hn] at hS hR ⊢
  obtain ⟨e, he⟩ : ∃ e : Nat, 2 * k = e := ⟨_, rfl⟩
  obtain ⟨o, ho⟩ : ∃ o : Nat, n - 1 - e = o := ⟨_, rfl⟩
  rw [he, ho]
  have hen : e < n := by omega
  have hon : o < n := by omega
  have hke : 2 * (k : Int) = (e : Int) := by omega
  have hoe : (n : Int) - 1 - (e : Int) = (o : Int) := by omega
  obtain ⟨S1, S2⟩ := S
  obtain ⟨t1, t2⟩ := tu
  have hbt := fun w => bigTimes_any S1 S2 t1 t2 hc64.1 hc64.2 w
  obtain ⟨y1, hy1e⟩ : ∃ y, (wmul (S1, S2) (t1, t2)).1 = y := ⟨_, rfl⟩
  obtain ⟨y2, hy2e⟩ : ∃ y, (wmul (S1, S2) (t1, t2)).2 = y := ⟨_, rfl⟩
  rw [show S1 * t1 - S2 * t2 = y1 from hy1e, show S1 * t2 + S2 * t1 = y2 from hy2e] at hbt
  rw [hy1e] at hy1 ⊢
  rw [hy2e] at hy2 ⊢
  obtain ⟨sh, hshe⟩ : ∃ sh, dctSh s = sh := ⟨_, rfl⟩
  rw [hshe] at hS hsh ⊢
  have r1 := fun w => round_any y1 hy1 sh (by omega) (by omega) w
  have r2 := fun w => round_any (-y2) hy2 sh (by omega) (by omega) w
  have s1 := fun w => sat_any (rnd sh y1) (rnd_in sh (by omega) hy1) w
  have s2 := fun w => sat_any (rnd sh (-y2)) (rnd_in sh (by omega) hy2) w
  have n2 := fun w => neg_any y2 w
  have ci1 := clamp_i32 (rnd sh y1)
  have ci2 := clamp_i32 (rnd sh (-y2))
  generalize hv1 : clamp32 (rnd sh y1) = v1 at *
  generalize hv2 : clamp32 (rnd sh (-y2)) = v2 at *
  generalize rnd sh y1 = q1 at *
  generalize rnd sh (-y2) = q2 at *
  generalize -y2 = m2 at *
  unfold bigAgg pairAgg at hbt ⊢
  unfold accAgg at r1 r2 s1 s2 n2
  have HBT := Lib.hid hbt
  have HS := Lib.hid hS
  have HR1 := Lib.hid r1
  have HR2 := Lib.hid r2
  have HS1 := Lib.hid s1
  have HS2 := Lib.hid s2
  have HN2 := Lib.hid n2
  have HR := Lib.hid hR
  have he0 : (0 : Int) ≤ e := by omega
  have ho0 : (0 : Int) ≤ o := by omega
  have hen' : (e : Int) < n := by omega
  have hon' : (o : Int) < n := by omega
  have w1 : (((e : Int)) + 9223372036854775808) % 18446744073709551616 - 9223372036854775808 = (e : Int) := by omega
  have w2 : (((n : Int) - 1) + 9223372036854775808) % 18446744073709551616 - 9223372036854775808 = (n : Int) - 1 := by omega
  have w3 : (((o : Int)) + 9223372036854775808) % 18446744073709551616 - 9223372036854775808 = (o : Int) := by omega
  clear hy1 hy2 hy1e hy2e hbt hS r1 r2 s1 s2 n2 hR hc64 hsh hshe hn hnh hv1 hv2 he ho
  go_enter Tryd.func67, Tryd.ntmps67
  go_upto_region 3 with (go_at_call 102; refine (HBT.out _).mono ?_; rintro e w1 ⟨rfl, hb1⟩; have HB1 := Lib.hid (show Below w.heap.size w w1 from Below.trans (by (repeat' (first | (with_reducible exact Below.refl _ _) | (with_reducible assumption) | (with_reducible refine Below.alloc ?_ ?_ _) | (with_reducible refine below_grew ?_ ?_ _) | (with_reducible refine Below.setCell ?_ ?_ _) | (with_reducible refine Below.drew ?_) | (with_reducible refine below_drewN ?_ _) | omega | (simp; done) | (simp; omega)))) (hb1.mono (by simp; omega))); clear hb1)
  refine cut_world (fun Z => Below w.heap.size w Z ∧ Z.heap[w1.heap.size]? = some (.cells #[.int .i64 (accHi y1), .int .u64 (accLo y1), .int .i64 (accHi y2), .int .u64 (accLo y2)] BigT (0, 0))) ⟨by have := HB1.out; have := HB1.out.size; (repeat' (first | (with_reducible exact Below.refl _ _) | (with_reducible assumption) | (with_reducible refine Below.alloc ?_ ?_ _) | (with_reducible refine below_grew ?_ ?_ _) | (with_reducible refine Below.setCell ?_ ?_ _) | (with_reducible refine Below.drew ?_) | (with_reducible refine below_drewN ?_ _) | omega | (simp; done) | (simp; omega))), alloc_at _ _⟩ ?_
  have hyw : w.heap.size ≤ w1.heap.size := HB1.out.size
  clear HB1
  generalize w1.heap.size = yb at *
  rintro Z ⟨hbZ, hcZ⟩
  have HBZ := Lib.hid hbZ
  have hRZ := HR.out.block (hbZ.block g HR.out.lt)
  have HRZ := Lib.hid hRZ
  have hgy : g < yb := Nat.lt_of_lt_of_le HR.out.lt hyw
  obtain ⟨k1, k2, hyl⟩ := block_facts hcZ
  have y0 := k1 0
  have yy1 := k1 1
  have yy2 := k1 2
  have yy3 := k1 3
  simp only [List.getElem?_toArray, List.getElem?_cons_zero, List.getElem?_cons_succ] at y0 yy1 yy2 yy3
  have HCZ := Lib.hid hcZ
  have hgl := hRZ.lt
  clear k1 k2 hbZ hcZ hRZ HBT HR
  refine wp_region_inv [] (fun W => Below Z.heap.size Z W) (fun W W' => Below W.heap.size W W') 10 (by kernel_rfl) (by kernel_rfl) (by kernel_rfl) ((Below.refl _ _).drew) (fun W W' h h' => h.trans (h'.mono h.size)) (fun _ _ h => h.size) ?_
  simp only [List.take_succ_cons, List.take_zero, List.drop_succ_cons, List.drop_zero]
  refine wpInv_det (by kernel_rfl) (by kernel_rfl) ?_
  apply Exists.intro
  refine ⟨?_, ?_, ?_⟩
  · intro U W hC hH
    have hc1 := (bcell hC).1
    have hf1 := (bcell hC).2
    simp only [HypsU, predsOf, Region.binds, List.filterMap_cons, List.filterMap_nil, if_true, List.nil_append, List.cons_append, List.getD_cons_zero, List.getD_cons_succ] at hH
    simp only [fillPuts, Act.put, List.setIfInBounds_toArray, List.set_cons_zero, List.set_cons_succ, Nat.reduceAdd]
    go_wp2_with fail
    refine ⟨rfl, rfl, by (repeat' (first | (with_reducible exact Below.refl _ _) | (with_reducible assumption) | (with_reducible refine Below.alloc ?_ ?_ _) | (with_reducible refine below_grew ?_ ?_ _) | (with_reducible refine Below.setCell ?_ ?_ _) | (with_reducible refine Below.drew ?_) | (with_reducible refine below_drewN ?_ _) | omega | (simp; done) | (simp; omega))), ?_⟩
    conv => lhs; whnf
    try rfl
  · exact fun _ => rfl
  simp only [List.nil_append, List.cons_append, Nat.reduceAdd]
  refine wpInv_det (by kernel_rfl) (by kernel_rfl) ?_
  apply Exists.intro
  refine ⟨?_, ?_, ?_⟩
  · intro U W hC hH
    have hc1 := (bcell hC).1
    have hf1 := (bcell hC).2
    simp only [HypsU, predsOf, Region.binds, List.filterMap_cons, List.filterMap_nil, if_true, List.nil_append, List.cons_append, List.getD_cons_zero, List.getD_cons_succ] at hH
    simp only [fillPuts, Act.put, List.setIfInBounds_toArray, List.set_cons_zero, List.set_cons_succ, Nat.reduceAdd]
    go_wp2_with fail
    refine ⟨rfl, rfl, by (repeat' (first | (with_reducible exact Below.refl _ _) | (with_reducible assumption) | (with_reducible refine Below.alloc ?_ ?_ _) | (with_reducible refine below_grew ?_ ?_ _) | (with_reducible refine Below.setCell ?_ ?_ _) | (with_reducible refine Below.drew ?_) | (with_reducible refine below_drewN ?_ _) | omega | (simp; done) | (simp; omega))), ?_⟩
    conv => lhs; whnf
    try rfl
  · exact fun _ => rfl
  simp only [List.nil_append, List.cons_append, Nat.reduceAdd]
  refine wpInv_det (by kernel_rfl) (by kernel_rfl) ?_
  apply Exists.intro
  refine ⟨?_, ?_, ?_⟩
  · intro U W hC hH
    have hc1 := (bcell hC).1
    have hf1 := (bcell hC).2
    simp only [HypsU, predsOf, Region.binds, List.filterMap_cons, List.filterMap_nil, if_true, List.nil_append, List.cons_append, List.getD_cons_zero, List.getD_cons_succ] at hH
    simp only [fillPuts, Act.put, List.setIfInBounds_toArray, List.set_cons_zero, List.set_cons_succ, Nat.reduceAdd]
    go_wp2_with fail
    refine ⟨rfl, rfl, by (repeat' (first | (with_reducible exact Below.refl _ _) | (with_reducible assumption) | (with_reducible refine Below.alloc ?_ ?_ _) | (with_reducible refine below_grew ?_ ?_ _) | (with_reducible refine Below.setCell ?_ ?_ _) | (with_reducible refine Below.drew ?_) | (with_reducible refine below_drewN ?_ _) | omega | (simp; done) | (simp; omega))), ?_⟩
    conv => lhs; whnf
    try rfl
  · exact fun _ => rfl
  simp only [List.nil_append, List.cons_append, Nat.reduceAdd]
  refine wpInv_det (by kernel_rfl) (by kernel_rfl) ?_
  apply Exists.intro
  refine ⟨?_, ?_, ?_⟩
  · intro U W hC hH
    have hc1 := (bcell hC).1
    have hf1 := (bcell hC).2
    simp only [HypsU, predsOf, Region.binds, List.filterMap_cons, List.filterMap_nil, if_true, List.nil_append, List.cons_append, List.getD_cons_zero, List.getD_cons_succ] at hH
    simp only [fillPuts, Act.put, List.setIfInBounds_toArray, List.set_cons_zero, List.set_cons_succ, Nat.reduceAdd]
    go_wp2_with fail
    refine ⟨rfl, rfl, by (repeat' (first | (with_reducible exact Below.refl _ _) | (with_reducible assumption) | (with_reducible refine Below.alloc ?_ ?_ _) | (with_reducible refine below_grew ?_ ?_ _) | (with_reducible refine Below.setCell ?_ ?_ _) | (with_reducible refine Below.drew ?_) | (with_reducible refine below_drewN ?_ _) | omega | (simp; done) | (simp; omega))), ?_⟩
    conv => lhs; whnf
    try rfl
  · exact fun _ => rfl
  simp only [List.nil_append, List.cons_append, Nat.reduceAdd]
  refine wpInv_det (by kernel_rfl) (by kernel_rfl) ?_
  apply Exists.intro
  refine ⟨?_, ?_, ?_⟩
  · intro U W hC hH
    have hc1 := (bcell hC).1
    have hf1 := (bcell hC).2
    simp only [HypsU, predsOf, Region.binds, List.filterMap_cons, List.filterMap_nil, if_true, List.nil_append, List.cons_append, List.getD_cons_zero, List.getD_cons_succ] at hH
    simp only [fillPuts, Act.put, List.setIfInBounds_toArray, List.set_cons_zero, List.set_cons_succ, Nat.reduceAdd]
    go_wp2_with fail
    refine ⟨rfl, rfl, by (repeat' (first | (with_reducible exact Below.refl _ _) | (with_reducible assumption) | (with_reducible refine Below.alloc ?_ ?_ _) | (with_reducible refine below_grew ?_ ?_ _) | (with_reducible refine Below.setCell ?_ ?_ _) | (with_reducible refine Below.drew ?_) | (with_reducible refine below_drewN ?_ _) | omega | (simp; done) | (simp; omega))), ?_⟩
    conv => lhs; whnf
    try rfl
  · exact fun _ => rfl
  simp only [List.nil_append, List.cons_append, Nat.reduceAdd]
  refine wpInv_det (by kernel_rfl) (by kernel_rfl) ?_
  apply Exists.intro
  refine ⟨?_, ?_, ?_⟩
  · intro U W hC hH
    have hc1 := (bcell hC).1
    have hf1 := (bcell hC).2
    simp only [HypsU, predsOf, Region.binds, List.filterMap_cons, List.filterMap_nil, if_true, List.nil_append, List.cons_append, List.getD_cons_zero, List.getD_cons_succ] at hH
    simp only [fillPuts, Act.put, List.setIfInBounds_toArray, List.set_cons_zero, List.set_cons_succ, Nat.reduceAdd]
    go_wp2_with fail
    refine ⟨rfl, rfl, by (repeat' (first | (with_reducible exact Below.refl _ _) | (with_reducible assumption) | (with_reducible refine Below.alloc ?_ ?_ _) | (with_reducible refine below_grew ?_ ?_ _) | (with_reducible refine Below.setCell ?_ ?_ _) | (with_reducible refine Below.drew ?_) | (with_reducible refine below_drewN ?_ _) | omega | (simp; done) | (simp; omega))), ?_⟩
    conv => lhs; whnf
    try rfl
  · exact fun _ => rfl
  simp only [List.nil_append, List.cons_append, Nat.reduceAdd]
  refine wpInv_det (by kernel_rfl) (by kernel_rfl) ?_
  apply Exists.intro
  refine ⟨?_, ?_, ?_⟩
  · intro U W hC hH
    have hc1 := (bcell hC).1
    have hf1 := (bcell hC).2
    simp only [HypsU, predsOf, Region.binds, List.filterMap_cons, List.filterMap_nil, if_true, List.nil_append, List.cons_append, List.getD_cons_zero, List.getD_cons_succ] at hH
    simp only [fillPuts, Act.put, List.setIfInBounds_toArray, List.set_cons_zero, List.set_cons_succ, Nat.reduceAdd]
    go_wp2_with fail; refine (HS.out _).mono ?_; rintro e w' ⟨rfl, rfl⟩; go_wp2_with fail
    refine ⟨rfl, rfl, by (repeat' (first | (with_reducible exact Below.refl _ _) | (with_reducible assumption) | (with_reducible refine Below.alloc ?_ ?_ _) | (with_reducible refine below_grew ?_ ?_ _) | (with_reducible refine Below.setCell ?_ ?_ _) | (with_reducible refine Below.drew ?_) | (with_reducible refine below_drewN ?_ _) | omega | (simp; done) | (simp; omega))), ?_⟩
    conv => lhs; whnf
    try rfl
  · exact fun _ => rfl
  simp only [List.nil_append, List.cons_append, Nat.reduceAdd]
  refine wpInv_det (by kernel_rfl) (by kernel_rfl) ?_
  apply Exists.intro
  refine ⟨?_, ?_, ?_⟩
  · intro U W hC hH
    have hc1 := (bcell hC).1
    have hf1 := (bcell hC).2
    simp only [HypsU, predsOf, Region.binds, List.filterMap_cons, List.filterMap_nil, if_true, List.nil_append, List.cons_append, List.getD_cons_zero, List.getD_cons_succ] at hH
    simp only [fillPuts, Act.put, List.setIfInBounds_toArray, List.set_cons_zero, List.set_cons_succ, Nat.reduceAdd]
    go_wp2_with fail; refine (HR1.out _).mono ?_; rintro e w' ⟨rfl, hb1⟩; obtain ⟨x1, rfl⟩ := below_as_grew hb1; clear hb1; go_wp2_with fail
    refine ⟨rfl, rfl, by (repeat' (first | (with_reducible exact Below.refl _ _) | (with_reducible assumption) | (with_reducible refine Below.alloc ?_ ?_ _) | (with_reducible refine below_grew ?_ ?_ _) | (with_reducible refine Below.setCell ?_ ?_ _) | (with_reducible refine Below.drew ?_) | (with_reducible refine below_drewN ?_ _) | omega | (simp; done) | (simp; omega))), ?_⟩
    conv => lhs; whnf
    try rfl
  · exact fun _ => rfl
  simp only [List.nil_append, List.cons_append, Nat.reduceAdd]
  refine wpInv_det (by kernel_rfl) (by kernel_rfl) ?_
  apply Exists.intro
  refine ⟨?_, ?_, ?_⟩
  · intro U W hC hH
    have hc1 := (bcell hC).1
    have hf1 := (bcell hC).2
    simp only [HypsU, predsOf, Region.binds, List.filterMap_cons, List.filterMap_nil, if_true, List.nil_append, List.cons_append, List.getD_cons_zero, List.getD_cons_succ] at hH
    simp only [fillPuts, Act.put, List.setIfInBounds_toArray, List.set_cons_zero, List.set_cons_succ, Nat.reduceAdd]
    go_wp2_with fail; refine (HS1.out _).mono ?_; rintro e w' ⟨rfl, hb1⟩; obtain ⟨x1, rfl⟩ := below_as_grew hb1; clear hb1; go_wp2_with fail
    refine ⟨rfl, rfl, by (repeat' (first | (with_reducible exact Below.refl _ _) | (with_reducible assumption) | (with_reducible refine Below.alloc ?_ ?_ _) | (with_reducible refine below_grew ?_ ?_ _) | (with_reducible refine Below.setCell ?_ ?_ _) | (with_reducible refine Below.drew ?_) | (with_reducible refine below_drewN ?_ _) | omega | (simp; done) | (simp; omega))), ?_⟩
    conv => lhs; whnf
    try rfl
  · exact fun _ => rfl
  simp only [List.nil_append, List.cons_append, Nat.reduceAdd]
  refine wpInv_det (by kernel_rfl) (by kernel_rfl) ?_
  apply Exists.intro
  refine ⟨?_, ?_, ?_⟩
  · intro U W hC hH
    have hc1 := (bcell hC).1
    have hf1 := (bcell hC).2
    simp only [HypsU, predsOf, Region.binds, List.filterMap_cons, List.filterMap_nil, if_true, List.nil_append, List.cons_append, List.getD_cons_zero, List.getD_cons_succ] at hH
    simp only [fillPuts, Act.put, List.setIfInBounds_toArray, List.set_cons_zero, List.set_cons_succ, Nat.reduceAdd]
    go_wp2_with fail
    refine ⟨rfl, rfl, by (repeat' (first | (with_reducible exact Below.refl _ _) | (with_reducible assumption) | (with_reducible refine Below.alloc ?_ ?_ _) | (with_reducible refine below_grew ?_ ?_ _) | (with_reducible refine Below.setCell ?_ ?_ _) | (with_reducible refine Below.drew ?_) | (with_reducible refine below_drewN ?_ _) | omega | (simp; done) | (simp; omega))), ?_⟩
    conv => lhs; whnf
    try rfl
  · exact fun _ => rfl
  simp only [List.nil_append, List.cons_append, Nat.reduceAdd]
  simp only [List.nil_append, List.cons_append, Nat.reduceAdd, fillPuts, Act.put, List.setIfInBounds_toArray, List.set_cons_zero, List.set_cons_succ]
  rintro U W hC ⟨h0, h1, h2, h3, h4, h5, h6, h7, h8, h9, -⟩ -
  simp only [h0, h1, h2, h3, h4, h5, h6, h7, h8, h9]
  clear h0 h1 h2 h3 h4 h5 h6 h7 h8 h9 y0 yy1 yy2 yy3
  have hRW := HRZ.out.keep hC
  obtain ⟨c0, f0⟩ := hRW.cell e hen
  have hq := hRW.set e v1
  have HQ := Lib.hid hq
  have hUW := (Upd.of_below (g := g) (HBZ.out)).trans ((Upd.of_below hC).trans (Upd.of_only (only_setCell W ⟨g, e, none⟩ (.int .i32 v1))))
  have HUW := Lib.hid hUW
  have hgl2 := hRW.lt
  have hcy : (W.setCell ⟨g, e, none⟩ (.int .i32 v1)).heap[yb]? = some (.cells #[.int .i64 (accHi y1), .int .u64 (accLo y1), .int .i64 (accHi y2), .int .u64 (accLo y2)] BigT (0, 0)) :=
    ((only_setCell W ⟨g, e, none⟩ (.int .i32 v1)).block yb (by show yb ≠ g; omega)).trans ((hC.block yb (block_facts HCZ.out).2.2).trans HCZ.out)
  have HCY := Lib.hid hcy
  clear hq hUW hRW hcy hC
  go_upto_region 4 with fail
  refine cut_world (fun Y => Upd g w Y ∧ R32 g N n T (updI f e v1) Y ∧ Y.heap[yb]? = some (.cells #[.int .i64 (accHi y1), .int .u64 (accLo y1), .int .i64 (accHi y2), .int .u64 (accLo y2)] BigT (0, 0))) ⟨HUW.out, HQ.out, HCY.out⟩ ?_
  clear HQ HUW HCY HRZ HBZ HCZ c0 f0 hgl2 hgl hyl
  clear W Z
  rintro Y ⟨hu, hRY, hcY⟩
  obtain ⟨k1, k2, hyl⟩ := block_facts hcY
  have y0 := k1 0
  have yy1 := k1 1
  have yy2 := k1 2
  have yy3 := k1 3
  simp only [List.getElem?_toArray, List.getElem?_cons_zero, List.getElem?_cons_succ] at y0 yy1 yy2 yy3
  have HUY := Lib.hid hu
  have HRY := Lib.hid hRY
  clear k1 k2 hu hRY hcY
  go_wp2_with fail
  refine (HN2.out _).mono ?_
  rintro e w2 ⟨rfl, hb2⟩
  have HB2 := Lib.hid hb2
  clear hb2
  go_wp2_with fail
  refine (HS.out _).mono ?_
  rintro e w3 ⟨rfl, rfl⟩
  go_wp2_with fail
  refine (HR2.out _).mono ?_
  rintro e w3 ⟨rfl, hb3⟩
  have HB3 := Lib.hid (HB2.out.trans (hb3.mono HB2.out.size))
  clear hb3
  go_wp2_with fail
  refine (HS2.out _).mono ?_
  rintro e w4 ⟨rfl, hb4⟩
  have HB4 := Lib.hid (HB3.out.trans (hb4.mono HB3.out.size))
  clear hb4
  have hRW := HRY.out.keep HB4.out
  obtain ⟨c0, f0⟩ := hRW.cell o hon
  have hq := hRW.set o v2
  have HQ := Lib.hid hq
  have hUW := HUY.out.trans ((Upd.of_below HB4.out).trans (Upd.of_only (only_setCell w4 ⟨g, o, none⟩ (.int .i32 v2))))
  have HUW := Lib.hid hUW
  have hgl2 := hRW.lt
  clear hq hUW hRW
  go_wp2_with fail
  go_end0
  exact ⟨rfl, HUW.out, HQ.out⟩
end Go.Proofs.YtcibajleknhklaaDoor
end

section
namespace Go.Proofs.YtcibajleknhklaaDoor
open Go.RowKit Go.BigFrame Go.Proofs.YtcibajleknhklaaDoorW.PrintWords Go.Proofs.YtcibajleknhklaaDoorW.PrintLast Go.Proofs.YtcibajleknhklaaDoorW.PrintMore
set_option linter.unusedSimpArgs false
set_option linter.unusedVariables false
theorem dctPair_small (n : Nat) (x : Nat → Int) (j : Nat) (h : ∀ i, -2147483648 ≤ x i ∧ x i ≤ 2147483647) : small 17592186044416 (dctPair n x j) := by
  have := wmul_small (b := 2147483648) (c := 4096) (p := (x (2 * j), x (n - 1 - 2 * j))) (q := turnF (((4 * j + 1) * 32 / n : Nat) : Int)) (by have := h (2 * j); have := h (n - 1 - 2 * j); unfold small; simp only; omega) (turnF_small _)
  unfold dctPair
  exact this
theorem sumTo_small (s : Nat) (hs : s ≤ 4) (l : List (Int × Int)) (k : Nat) : ∀ m : Nat, m ≤ 16 → (∀ j, j < m → small 17592186044416 (l.getD j (0, 0))) → small ((m : Int) * 158456325028528675187087900672) (sumTo s l k m)
  | 0, _, _ => by unfold sumTo small; simp
  | m + 1, hm, h => by
    have ih := sumTo_small s hs l k m (by omega) (fun j hj => h j (by omega))
    have ht := wmul_small (h m (by omega)) (weightF_small s hs m k)
    rw [sumTo]
    unfold small at ih ⊢
    unfold term
    unfold small at ht
    obtain ⟨a1, a2, a3, a4⟩ := ih
    obtain ⟨b1, b2, b3, b4⟩ := ht
    refine ⟨?_, ?_, ?_, ?_⟩ <;> simp only <;> omega
theorem dctZ_len (s : Nat) (x : Nat → Int) : (dctZ s x).length = 2 ^ s := by simp [dctZ]
theorem dctZ_at (s : Nat) (x : Nat → Int) (j : Nat) (h : j < 2 ^ s) : (dctZ s x).getD j (0, 0) = dctPair (2 ^ (s + 1)) x j := by
  simp [dctZ, List.getD_eq_getElem?_getD, h]
theorem dctY_in (s : Nat) (h1 : 2 ≤ s) (h2 : s ≤ 4) (x : Nat → Int) (k : Nat) (h : ∀ i, -2147483648 ≤ x i ∧ x i ≤ 2147483647) : In128 (dctY s x k).1 ∧ In128 (-(dctY s x k).2) := by
  have hs16 : 2 ^ s ≤ 16 := by rcases dct_s s h1 h2 with rfl | rfl | rfl <;> decide
  have a := sumTo_small s h2 (dctZ s x) k (2 ^ s) hs16 (fun j hj => by rw [dctZ_at s x j hj]; exact dctPair_small _ x j h)
  have a' : small (16 * 158456325028528675187087900672) (sumTo s (dctZ s x) k (2 ^ s)) := by
    unfold small at a ⊢
    generalize 2 ^ s = m at *
    omega
  have b := wmul_small a' (turnF_small ((k * 128 / 2 ^ (s + 1) : Nat) : Int))
  unfold dctY
  unfold small at b
  unfold In128
  omega
theorem zrow (n : Nat) (x : Nat → Int) (k : Nat) : (((List.range (k + 1)).map (dctPair n x)).flatMap pairCells) = (((List.range k).map (dctPair n x)).flatMap pairCells) ++ [.int .i64 (dctPair n x k).1, .int .i64 (dctPair n x k).2] := by
  simp [List.range_succ, pairCells]
theorem zrow_at (F : Nat → Int × Int) : ∀ n j i, j < n → i < 2 → (((List.range n).map F).flatMap pairCells)[j * 2 + i]? = (pairCells (F j))[i]?
  | 0, j, i, h, _ => absurd h (by omega)
  | n + 1, j, i, h, hi => by
    have hl : ∀ m, (((List.range m).map F).flatMap pairCells).length = m * 2 := fun m => by
      induction m with
      | zero => rfl
      | succ m ih => rw [List.range_succ, List.map_append, List.flatMap_append, List.length_append, ih]; simp [pairCells]; omega
    rw [List.range_succ, List.map_append, List.flatMap_append]
    by_cases e : j < n
    · rw [List.getElem?_append_left (by rw [hl]; omega)]
      exact zrow_at F n j i e hi
    · obtain rfl : j = n := by omega
      rw [List.getElem?_append_right (by rw [hl]; omega), hl]
      simp [show j * 2 + i - j * 2 = i by omega]
/-- The direct sum of a list that lies in a row. -/
theorem direct_list (t : Nat) (ht : t ≤ 4) (l : List (Int × Int)) (n : Nat) (hn : 2 ^ t = n) (hl : l.length = n) (h64 : ∀ j, j < n → In64 (l.getD j (0, 0)).1 ∧ In64 (l.getD j (0, 0)).2) (zb zc : Nat) (w : World) (hT : CosW w) (hzl : zb < w.heap.size)
    (hz : ∀ j, j < n → w.cell? ⟨zb, j * 2, none⟩ = some (.int .i64 (l.getD j (0, 0)).1) ∧ w.cell? ⟨zb, j * 2 + 1, none⟩ = some (.int .i64 (l.getD j (0, 0)).2)) :
    Calls Tryd.prog 26 #[.slice (some ⟨zb, 0, none⟩) n zc] w fun e w' => ∃ db dc, e = .returned (.slice (some ⟨db, 0, none⟩) n dc) ∧ w.heap.size ≤ db ∧ db < w'.heap.size ∧ (∀ j, j < n → ∀ i u, (bigCells (sumTo t l j n))[i]? = some u → w'.cell? ⟨db, j * 4 + i, none⟩ = some u) ∧ Below w.heap.size w w' := by
  have hd := direct_yes t ht l (by rw [hl, hn]) (fun j hj => h64 j (by omega)) zb 0 zc w hT hzl (fun j hj => by rw [Nat.zero_add]; exact hz j (by omega))
  rw [hl] at hd
  have hn0 : 0 < n := by rw [← hn]; exact Nat.pow_pos (by decide)
  refine hd.mono ?_
  rintro e w' ⟨v, rfl, ho, hb⟩
  obtain ⟨db, dc, rfl, h1, h0, h3⟩ := own_cells ho hn0
  refine ⟨db, dc, rfl, h0, h1, fun j hj i u hu => ?_, hb⟩
  have hi : i < 4 := (List.getElem?_eq_some_iff.1 hu).1
  rw [h3 (j * 4 + i) (by omega), ← hu]
  unfold directF
  rw [hl, bigs_at _ n j i hj hi]
/-- The first k sums have been put. -/
def putTo (s : Nat) (x : Nat → Int) (k : Nat) (i : Nat) : Int := if i % 2 = 0 then (if i / 2 < k then dctF s x i else 0) else (if (2 ^ (s + 1) - 1 - i) / 2 < k then dctF s x i else 0)
theorem putTo_step (s : Nat) (x : Nat → Int) (k : Nat) (hk : k < 2 ^ s) (i : Nat) (hi : i < 2 ^ (s + 1)) :
    updI (updI (putTo s x k) (2 * k) (clamp32 (rnd (dctSh s) (dctY s x k).1))) (2 ^ (s + 1) - 1 - 2 * k) (clamp32 (rnd (dctSh s) (-(dctY s x k).2))) i = putTo s x (k + 1) i := by
  have hn : 2 ^ (s + 1) = 2 ^ s + 2 ^ s := by rw [Nat.pow_succ]; omega
  have hev : 2 ^ s % 2 = 0 ∨ 2 ^ s = 1 := by
    rcases Nat.eq_zero_or_pos s with e | e
    · subst e; exact .inr rfl
    · left
      obtain ⟨t, rfl⟩ : ∃ t, s = t + 1 := ⟨s - 1, by omega⟩
      rw [Nat.pow_succ]; omega
  unfold updI
  by_cases a : i = 2 ^ (s + 1) - 1 - 2 * k
  · rw [if_pos a]
    unfold putTo dctF
    rw [if_neg (by omega), if_pos (by omega), if_neg (by omega), show (2 ^ (s + 1) - 1 - i) / 2 = k from by omega]
  · rw [if_neg a]
    by_cases b : i = 2 * k
    · rw [if_pos b]
      unfold putTo dctF
      rw [if_pos (by omega), if_pos (by omega), if_pos (by omega), show i / 2 = k from by omega]
    · rw [if_neg b]
      unfold putTo
      by_cases c : i % 2 = 0
      · rw [if_pos c, if_pos c]
        by_cases d : i / 2 < k
        · rw [if_pos d, if_pos (by omega)]
        · rw [if_neg d, if_neg (by omega)]
      · rw [if_neg c, if_neg c]
        by_cases d : (2 ^ (s + 1) - 1 - i) / 2 < k
        · rw [if_pos d, if_pos (by omega)]
        · rw [if_neg d, if_neg (by omega)]
theorem putTo_all (s : Nat) (x : Nat → Int) (i : Nat) (hi : i < 2 ^ (s + 1)) : putTo s x (2 ^ s) i = dctF s x i := by
  have hn : 2 ^ (s + 1) = 2 ^ s + 2 ^ s := by rw [Nat.pow_succ]; omega
  unfold putTo
  by_cases c : i % 2 = 0
  · rw [if_pos c, if_pos (by omega)]
  · rw [if_neg c, if_pos (by omega)]
theorem i32_zero (i : Nat) : (Value.int .i32 0).cells[i % (Value.int .i32 0).cells.size]! = .int ((fun _ : Nat => IntKind.i32) i) 0 := by
  show (#[Value.int .i32 0] : Array Value)[i % 1]! = .int .i32 0
  rw [Nat.mod_one]; rfl
set_option maxHeartbeats 4000000 in
set_option maxRecDepth 100000 in
theorem dctPlain_any (s : Nat) (h1 : 2 ≤ s) (h2 : s ≤ 4) (b off c : Nat) (x : Nat → Int) (w : World) (hT : CosW w) (hb : b < w.heap.size)
    (hx : ∀ i, i < 2 ^ (s + 1) → w.cell? ⟨b, off + i, none⟩ = some (.int .i32 (x i))) (hx32 : ∀ i, -2147483648 ≤ x i ∧ x i ≤ 2147483647) :
    Calls Tryd.prog 25 #[.slice (some ⟨b, off, none⟩) (2 ^ (s + 1)) c] w fun e w' => ∃ g, e = .returned (.slice (some ⟨g, 0, none⟩) (2 ^ (s + 1)) (2 ^ (s + 1))) ∧ w.heap.size ≤ g ∧
      Bx g 21 (fun _ => .i32) (2 ^ (s + 1)) (dctF s x) w' ∧ Below w.heap.size w w' := by
  have hth := fun w => there_dct s h1 h2 w
  have hpa := fun w hT hb hx j hj => pair_any s h1 h2 b off c x w hT hb hx j hj
  have hput := fun g f S tu w hR h64 hy1 hy2 k hk => put_any s h1 h2 g (2 ^ (s + 1)) (2 ^ (s + 1)) 21 f S tu w hR h64 hy1 hy2 k hk
  have hpt := putTo_step s x
  have hpl := putTo_all s x
  have hyin := fun k => dctY_in s h1 h2 x k hx32
  have hlist := fun zb zc w hT hzl hz => direct_list s h2 (dctZ s x) (2 ^ s) rfl (dctZ_len s x) (fun j hj => by
    rw [dctZ_at s x j hj]
    have := dctPair_small (2 ^ (s + 1)) x j hx32
    unfold small at this
    unfold In64
    omega) zb zc w hT hzl hz
  have hza := dctZ_at s x
  have hyd : ∀ k, dctY s x k = wmul (sumTo s (dctZ s x) k (2 ^ s)) (turnF ((k * 128 / 2 ^ (s + 1) : Nat) : Int)) := fun k => rfl
  obtain ⟨n, hn⟩ : ∃ n : Nat, 2 ^ (s + 1) = n := ⟨_, rfl⟩
  obtain ⟨h, hh⟩ : ∃ h : Nat, 2 ^ s = h := ⟨_, rfl⟩
  have hnh : n = h + h := by rw [← hn, ← hh, Nat.pow_succ]; omega
  have hn8 : 8 ≤ n ∧ n ≤ 32 := by
    rcases dct_s s h1 h2 with rfl | rfl | rfl <;> (rw [← hn]; decide)
  rw [hn] at hx hth hpa hput hpt hpl hza ⊢
  rw [hh] at hpa hput hpt hpl hlist hza
  simp only [hn, hh] at hyd
  unfold pairAgg at hpa hput
  unfold bigAgg at hput
  have tu := turn_any
  unfold pairAgg at tu
  have HTH := Lib.hid hth
  have HPA := Lib.hid hpa
  have HPU := Lib.hid hput
  have HPT := Lib.hid hpt
  have HPL := Lib.hid hpl
  have HYI := Lib.hid hyin
  have HLI := Lib.hid hlist
  have HZA := Lib.hid hza
  have HYD := Lib.hid hyd
  have HTU := Lib.hid tu
  have HC := Lib.hid hT
  have HX := Lib.hid (fun i hi => And.intro (hx i hi) (hx32 i))
  have hdiv : (n : Int) / 2 = (h : Int) := by omega
  have HDIV := Lib.hid hdiv
  have HNH := Lib.hid hnh
  have hh2 : h ≤ 16 ∧ 4 ≤ h := by omega
  clear hnh hth hpa hput hpt hpl hyin hlist hza hyd tu hT hx hx32 hn hh hdiv
  go_enter Tryd.func25, Tryd.ntmps25
  go_wp2_with fail
  refine (HTH.out _).mono ?_
  rintro e w1 ⟨rfl, hb1⟩
  have HB1 := Lib.hid hb1
  clear hb1
  go_wp2_with fail
  rw [HDIV.out]
  go_loopw [16, 4] (fun cnt v wr => ∃ k : Nat, k ≤ h ∧ cnt = .int .i64 k ∧ wr.ownsRow w.heap.size 49 2 v k (((List.range k).map (dctPair n x)).flatMap pairCells) ∧ Below w.heap.size w wr) (fun cnt _ _ => h - (intOf cnt).toNat)
  case atStart => exact ⟨0, by omega, rfl, World.ownsRow_nil _ _ _ _, HB1.out⟩
  case round =>
    clear HB1
    obtain ⟨k, hk, rfl, hown, hbel⟩ := hrel
    obtain ⟨wo, rfl⟩ : ∃ wo : World, wo = wr := ⟨_, rfl⟩
    have HBE := Lib.hid hbel
    have HOW := Lib.hid hown
    clear hown hbel
    by_cases hlt : k < h
    · have hlt' : (k : Int) < h := by omega
      have hcall := HPA.out wo (HC.out.below HBE.out) (Nat.lt_of_lt_of_le hb HBE.out.size) (fun i hi => ⟨(cell_blk (HBE.out.block b hb) _).trans (HX.out i hi).1, (HX.out i hi).2⟩) k hlt
      have HCA := Lib.hid hcall
      clear hcall
      go_wp2_with fail
      refine HCA.out.mono ?_
      rintro e w2 ⟨rfl, hb2⟩
      have hown' := ownsRow_below HOW.out hb2
      have hB2 := HBE.out.trans (hb2.mono HBE.out.size)
      have hs2 := hB2.size
      have HB2 := Lib.hid hB2
      clear hB2 hb2
      go_wp2_with (at_builtin; refine wpList_append_one rfl _ _ 32 rfl w.heap.size 49 _ 2 16 Tryd.underlying32 pairInfo rfl (by decide) _ k _ rfl hown' _ [_, _] rfl ?hg rfl ?h1 ?h63 ?hby ?hba ?_; (case hg => rfl); (case h1 => simp [Value.oneCell']; done); (case h63 => exact maxLen_le (by omega)); (case hby => omega); (case hba => omega); intro v' w3 hown3 hbel3 _ _)
      refine ⟨⟨k + 1, by omega, by go_num, by rw [zrow]; exact hown3, HB2.out.trans hbel3⟩, by simp only [intOf]; omega⟩
    · obtain rfl : h = k := by omega
      have hlt' : ¬ (h : Int) < h := by omega
      go_wp2_with (at_make; refine make_block _ rfl _ _ _ rfl 21 (.int .i32 0) 1 4 (by kernel_rfl) (by kernel_rfl) n rfl rfl (by omega) (by omega) (fun _ => .i32) i32_zero ?_)
      obtain ⟨zb, zc, rfl, hzw, hzl⟩ := own_form HOW.out (by omega)
      have hzc : ∀ j, j < h → wo.cell? ⟨zb, j * 2, none⟩ = some (.int .i64 ((dctZ s x).getD j (0, 0)).1) ∧ wo.cell? ⟨zb, j * 2 + 1, none⟩ = some (.int .i64 ((dctZ s x).getD j (0, 0)).2) := fun j hj => by
        rw [HZA.out j hj]
        have e := fun i u hi hu => HOW.out.cells (g := zb) rfl (j * 2 + i) u ((zrow_at (dctPair n x) h j i hj hi).trans hu)
        have e0 := e 0 _ (by decide) rfl
        have e1 := e 1 _ (by decide) rfl
        rw [Addr.add_lit, Nat.zero_add] at e0 e1
        exact ⟨e0, e1⟩
      have hWb : Below wo.heap.size wo (wo.alloc (.cells (ag (fun _ => .i32) n fun _ => 0) 21)) := by (repeat' (first | (with_reducible exact Below.refl _ _) | (with_reducible assumption) | (with_reducible refine Below.alloc ?_ ?_ _) | (with_reducible refine below_grew ?_ ?_ _) | (with_reducible refine Below.setCell ?_ ?_ _) | (with_reducible refine Below.drew ?_) | (with_reducible refine below_drewN ?_ _) | omega | (simp; done) | (simp; omega)))
      have hdir := HLI.out zb zc _ (HC.out.below (HBE.out.trans (hWb.mono HBE.out.size))) (Nat.lt_of_lt_of_le hzl hWb.size) (fun j hj => ⟨(cell_blk (hWb.block zb hzl) _).trans (hzc j hj).1, (cell_blk (hWb.block zb hzl) _).trans (hzc j hj).2⟩)
      have HDIR := Lib.hid hdir
      clear hdir hzc hWb
      obtain ⟨g, hg⟩ : ∃ g, wo.heap.size = g := ⟨_, rfl⟩
      have hgw : w.heap.size ≤ g := by have := HBE.out.size; omega
      have hR0 : R32 g n n 21 (putTo s x 0) (wo.alloc (.cells (ag (fun _ => .i32) n fun _ => 0) 21)) := by
        rw [← hg]
        refine (R32.of_bx (f := fun _ => 0) (alloc_at _ _)).ext (fun i _ => ?_)
        unfold putTo
        (repeat' split) <;> first | rfl | omega
      refine HDIR.out.mono ?_
      rintro e w3 ⟨db, dc, rfl, hdg0, hdl, hd3, hb3⟩
      have hdg : db ≠ g := by simp at hdg0; omega
      clear hdg0
      have HD3 := Lib.hid hd3
      have HR3 := Lib.hid (hR0.keep hb3)
      have hW3 : Below w.heap.size w w3 := by
        have h0 : Below w.heap.size w (wo.alloc (.cells (ag (fun _ => .i32) n fun _ => 0) 21)) := by have := HBE.out; have := HBE.out.size; (repeat' (first | (with_reducible exact Below.refl _ _) | (with_reducible assumption) | (with_reducible refine Below.alloc ?_ ?_ _) | (with_reducible refine below_grew ?_ ?_ _) | (with_reducible refine Below.setCell ?_ ?_ _) | (with_reducible refine Below.drew ?_) | (with_reducible refine below_drewN ?_ _) | omega | (simp; done) | (simp; omega)))
        exact h0.trans (hb3.mono h0.size)
      have HW3 := Lib.hid hW3
      clear hd3 hR0 hb3 hW3 HDIR HOW HBE
      rw [hg]
      clear hg
      go_wp2_with fail
      go_loopw [31] (fun cnt wr => ∃ k : Nat, k ≤ h ∧ cnt = .int .i64 k ∧ R32 g n n 21 (putTo s x k) wr ∧ Upd g w3 wr) (fun cnt _ => h - (intOf cnt).toNat)
      case atStart => exact ⟨0, by omega, rfl, HR3.out, Upd.refl _ _⟩
      case round =>
        obtain ⟨k, hk, rfl, hRr, hu⟩ := hrel
        by_cases hlt : k < h
        · have hlt' : (k : Int) < h := by omega
          have hk0 : (0 : Int) ≤ k := by omega
          have hd := HD3.out k hlt
          obtain ⟨S, hS⟩ : ∃ S, sumTo s (dctZ s x) k h = S := ⟨_, rfl⟩
          rw [hS] at hd
          have hydk := HYD.out k
          have hyk := HYI.out k
          obtain ⟨q, hq⟩ : ∃ q : Nat, k * 128 / n = q := ⟨_, rfl⟩
          have hqq : (k : Int) * 128 / (n : Int) = (q : Int) := by rw [← hq]; simp
          rw [hS, hq] at hydk
          obtain ⟨tu, htu⟩ : ∃ tu, turnF (q : Int) = tu := ⟨_, rfl⟩
          have hts := turnF_small (q : Int)
          rw [htu] at hydk hts
          have hcall := HTU.out (q : Int)
          rw [htu] at hcall
          have h64 : In64 tu.1 ∧ In64 tu.2 := by unfold small at hts; unfold In64; omega
          have d0 := (cell_blk (hu.block db hdl hdg) _).trans (hd 0 _ rfl)
          have d1 := (cell_blk (hu.block db hdl hdg) _).trans (hd 1 _ rfl)
          have d2 := (cell_blk (hu.block db hdl hdg) _).trans (hd 2 _ rfl)
          have d3 := (cell_blk (hu.block db hdl hdg) _).trans (hd 3 _ rfl)
          simp only [Nat.add_zero] at d0 d1 d2 d3
          have hdbl : db < wr.heap.size := Nat.lt_of_lt_of_le hdl hu.size
          have hgl := hRr.lt
          have HQQ := Lib.hid hqq
          have HUR := Lib.hid hu
          have HRR := Lib.hid hRr
          have HYK := Lib.hid hydk
          have HYN := Lib.hid hyk
          have HTC := Lib.hid hcall
          have H64 := Lib.hid h64
          clear hd hS hydk hyk hq hqq htu hts hcall h64 hu hRr
          go_upto_region 14 with fail
          refine cut_world (fun Y => Below wr.heap.size wr Y ∧ Y.heap[wr.heap.size]? = some (.cells #[.int .i64 (accHi S.1), .int .u64 (accLo S.1), .int .i64 (accHi S.2), .int .u64 (accLo S.2)] BigT (0, 0))) ⟨by (repeat' (first | (with_reducible exact Below.refl _ _) | (with_reducible assumption) | (with_reducible refine Below.alloc ?_ ?_ _) | (with_reducible refine below_grew ?_ ?_ _) | (with_reducible refine Below.setCell ?_ ?_ _) | (with_reducible refine Below.drew ?_) | (with_reducible refine below_drewN ?_ _) | omega | (simp; done) | (simp; omega))), alloc_at _ _⟩ ?_
          rintro Y ⟨hbY, hcY⟩
          have HBY := Lib.hid hbY
          obtain ⟨k1, k2, k3⟩ := block_facts hcY
          have y0 := k1 0
          have y1 := k1 1
          have y2 := k1 2
          have y3 := k1 3
          simp only [List.getElem?_toArray, List.getElem?_cons_zero, List.getElem?_cons_succ] at y0 y1 y2 y3
          have hTY : CosW Y := HC.out.below ((HW3.out.trans ⟨HUR.out.os, HUR.out.tape, HUR.out.output, HUR.out.size, fun i hi => HUR.out.block i (by have := HW3.out.size; omega) (by omega)⟩).trans (hbY.mono (by have := HW3.out.size; have := HUR.out.size; omega)))
          have HTY := Lib.hid hTY
          have HUY := Lib.hid (HUR.out.trans (Upd.of_below hbY))
          have hRY := HRR.out.keep hbY
          have HRY := Lib.hid hRY
          have hgl2 := hRY.lt
          clear hRY
          generalize wr.heap.size = bb at *
          clear k1 k2 hbY hcY d0 d1 d2 d3 hTY
          have wk : ((k : Int) * 128 + 9223372036854775808) % 18446744073709551616 - 9223372036854775808 = (k : Int) * 128 := by omega
          have hn0 : ¬ n = 0 := by omega
          refine wp_region_inv [] (fun W => Below Y.heap.size Y W) (fun W W' => Below W.heap.size W W') 8 (by kernel_rfl) (by kernel_rfl) (by kernel_rfl) ((Below.refl _ _).drew) (fun W W' h h' => h.trans (h'.mono h.size)) (fun _ _ h => h.size) ?_
          simp only [List.take_succ_cons, List.take_zero, List.drop_succ_cons, List.drop_zero]
          refine wpInv_det (by kernel_rfl) (by kernel_rfl) ?_
          apply Exists.intro
          refine ⟨?_, ?_, ?_⟩
          · intro U W hC hH
            have hc1 := (bcell hC).1
            have hf1 := (bcell hC).2
            simp only [HypsU, predsOf, Region.binds, List.filterMap_cons, List.filterMap_nil, if_true, List.nil_append, List.cons_append, List.getD_cons_zero, List.getD_cons_succ] at hH
            simp only [fillPuts, Act.put, List.setIfInBounds_toArray, List.set_cons_zero, List.set_cons_succ, Nat.reduceAdd]
            go_wp2_with fail
            refine ⟨rfl, rfl, by (repeat' (first | (with_reducible exact Below.refl _ _) | (with_reducible assumption) | (with_reducible refine Below.alloc ?_ ?_ _) | (with_reducible refine below_grew ?_ ?_ _) | (with_reducible refine Below.setCell ?_ ?_ _) | (with_reducible refine Below.drew ?_) | (with_reducible refine below_drewN ?_ _) | omega | (simp; done) | (simp; omega))), ?_⟩
            conv => lhs; whnf
            try rfl
          · exact fun _ => rfl
          simp only [List.nil_append, List.cons_append, Nat.reduceAdd]
          refine wpInv_det (by kernel_rfl) (by kernel_rfl) ?_
          apply Exists.intro
          refine ⟨?_, ?_, ?_⟩
          · intro U W hC hH
            have hc1 := (bcell hC).1
            have hf1 := (bcell hC).2
            simp only [HypsU, predsOf, Region.binds, List.filterMap_cons, List.filterMap_nil, if_true, List.nil_append, List.cons_append, List.getD_cons_zero, List.getD_cons_succ] at hH
            simp only [fillPuts, Act.put, List.setIfInBounds_toArray, List.set_cons_zero, List.set_cons_succ, Nat.reduceAdd]
            go_wp2_with fail
            refine ⟨rfl, rfl, by (repeat' (first | (with_reducible exact Below.refl _ _) | (with_reducible assumption) | (with_reducible refine Below.alloc ?_ ?_ _) | (with_reducible refine below_grew ?_ ?_ _) | (with_reducible refine Below.setCell ?_ ?_ _) | (with_reducible refine Below.drew ?_) | (with_reducible refine below_drewN ?_ _) | omega | (simp; done) | (simp; omega))), ?_⟩
            conv => lhs; whnf
            try rfl
          · exact fun _ => rfl
          simp only [List.nil_append, List.cons_append, Nat.reduceAdd]
          refine wpInv_det (by kernel_rfl) (by kernel_rfl) ?_
          apply Exists.intro
          refine ⟨?_, ?_, ?_⟩
          · intro U W hC hH
            have hc1 := (bcell hC).1
            have hf1 := (bcell hC).2
            simp only [HypsU, predsOf, Region.binds, List.filterMap_cons, List.filterMap_nil, if_true, List.nil_append, List.cons_append, List.getD_cons_zero, List.getD_cons_succ] at hH
            simp only [fillPuts, Act.put, List.setIfInBounds_toArray, List.set_cons_zero, List.set_cons_succ, Nat.reduceAdd]
            go_wp2_with fail
            refine ⟨rfl, rfl, by (repeat' (first | (with_reducible exact Below.refl _ _) | (with_reducible assumption) | (with_reducible refine Below.alloc ?_ ?_ _) | (with_reducible refine below_grew ?_ ?_ _) | (with_reducible refine Below.setCell ?_ ?_ _) | (with_reducible refine Below.drew ?_) | (with_reducible refine below_drewN ?_ _) | omega | (simp; done) | (simp; omega))), ?_⟩
            conv => lhs; whnf
            try rfl
          · exact fun _ => rfl
          simp only [List.nil_append, List.cons_append, Nat.reduceAdd]
          refine wpInv_det (by kernel_rfl) (by kernel_rfl) ?_
          apply Exists.intro
          refine ⟨?_, ?_, ?_⟩
          · intro U W hC hH
            have hc1 := (bcell hC).1
            have hf1 := (bcell hC).2
            simp only [HypsU, predsOf, Region.binds, List.filterMap_cons, List.filterMap_nil, if_true, List.nil_append, List.cons_append, List.getD_cons_zero, List.getD_cons_succ] at hH
            simp only [fillPuts, Act.put, List.setIfInBounds_toArray, List.set_cons_zero, List.set_cons_succ, Nat.reduceAdd]
            go_wp2_with fail
            refine ⟨rfl, rfl, by (repeat' (first | (with_reducible exact Below.refl _ _) | (with_reducible assumption) | (with_reducible refine Below.alloc ?_ ?_ _) | (with_reducible refine below_grew ?_ ?_ _) | (with_reducible refine Below.setCell ?_ ?_ _) | (with_reducible refine Below.drew ?_) | (with_reducible refine below_drewN ?_ _) | omega | (simp; done) | (simp; omega))), ?_⟩
            conv => lhs; whnf
            try rfl
          · exact fun _ => rfl
          simp only [List.nil_append, List.cons_append, Nat.reduceAdd]
          refine wpInv_det (by kernel_rfl) (by kernel_rfl) ?_
          apply Exists.intro
          refine ⟨?_, ?_, ?_⟩
          · intro U W hC hH
            have hc1 := (bcell hC).1
            have hf1 := (bcell hC).2
            simp only [HypsU, predsOf, Region.binds, List.filterMap_cons, List.filterMap_nil, if_true, List.nil_append, List.cons_append, List.getD_cons_zero, List.getD_cons_succ] at hH
            simp only [fillPuts, Act.put, List.setIfInBounds_toArray, List.set_cons_zero, List.set_cons_succ, Nat.reduceAdd]
            go_wp2_with fail
            refine ⟨rfl, rfl, by (repeat' (first | (with_reducible exact Below.refl _ _) | (with_reducible assumption) | (with_reducible refine Below.alloc ?_ ?_ _) | (with_reducible refine below_grew ?_ ?_ _) | (with_reducible refine Below.setCell ?_ ?_ _) | (with_reducible refine Below.drew ?_) | (with_reducible refine below_drewN ?_ _) | omega | (simp; done) | (simp; omega))), ?_⟩
            conv => lhs; whnf
            try rfl
          · exact fun _ => rfl
          simp only [List.nil_append, List.cons_append, Nat.reduceAdd]
          refine wpInv_det (by kernel_rfl) (by kernel_rfl) ?_
          apply Exists.intro
          refine ⟨?_, ?_, ?_⟩
          · intro U W hC hH
            have hc1 := (bcell hC).1
            have hf1 := (bcell hC).2
            simp only [HypsU, predsOf, Region.binds, List.filterMap_cons, List.filterMap_nil, if_true, List.nil_append, List.cons_append, List.getD_cons_zero, List.getD_cons_succ] at hH
            simp only [fillPuts, Act.put, List.setIfInBounds_toArray, List.set_cons_zero, List.set_cons_succ, Nat.reduceAdd]
            go_wp2_with fail
            refine ⟨rfl, rfl, by (repeat' (first | (with_reducible exact Below.refl _ _) | (with_reducible assumption) | (with_reducible refine Below.alloc ?_ ?_ _) | (with_reducible refine below_grew ?_ ?_ _) | (with_reducible refine Below.setCell ?_ ?_ _) | (with_reducible refine Below.drew ?_) | (with_reducible refine below_drewN ?_ _) | omega | (simp; done) | (simp; omega))), ?_⟩
            conv => lhs; whnf
            try rfl
          · exact fun _ => rfl
          simp only [List.nil_append, List.cons_append, Nat.reduceAdd]
          refine wpInv_det (by kernel_rfl) (by kernel_rfl) ?_
          apply Exists.intro
          refine ⟨?_, ?_, ?_⟩
          · intro U W hC hH
            have hc1 := (bcell hC).1
            have hf1 := (bcell hC).2
            simp only [HypsU, predsOf, Region.binds, List.filterMap_cons, List.filterMap_nil, if_true, List.nil_append, List.cons_append, List.getD_cons_zero, List.getD_cons_succ] at hH
            simp only [fillPuts, Act.put, List.setIfInBounds_toArray, List.set_cons_zero, List.set_cons_succ, Nat.reduceAdd]
            go_wp2_with fail
            refine ⟨rfl, rfl, by (repeat' (first | (with_reducible exact Below.refl _ _) | (with_reducible assumption) | (with_reducible refine Below.alloc ?_ ?_ _) | (with_reducible refine below_grew ?_ ?_ _) | (with_reducible refine Below.setCell ?_ ?_ _) | (with_reducible refine Below.drew ?_) | (with_reducible refine below_drewN ?_ _) | omega | (simp; done) | (simp; omega))), ?_⟩
            conv => lhs; whnf
            try rfl
          · exact fun _ => rfl
          simp only [List.nil_append, List.cons_append, Nat.reduceAdd]
          refine wpInv_det (by kernel_rfl) (by kernel_rfl) ?_
          apply Exists.intro
          refine ⟨?_, ?_, ?_⟩
          · intro U W hC hH
            have hc1 := (bcell hC).1
            have hf1 := (bcell hC).2
            simp only [HypsU, predsOf, Region.binds, List.filterMap_cons, List.filterMap_nil, if_true, List.nil_append, List.cons_append, List.getD_cons_zero, List.getD_cons_succ] at hH
            simp only [fillPuts, Act.put, List.setIfInBounds_toArray, List.set_cons_zero, List.set_cons_succ, Nat.reduceAdd]
            go_wp2_with fail; rw [HQQ.out]; refine (HTC.out _ (HTY.out.below hC)).mono ?_; rintro e w' ⟨rfl, hb1⟩; obtain ⟨x1, rfl⟩ := below_as_grew hb1; clear hb1; go_wp2_with fail
            refine ⟨rfl, rfl, by (repeat' (first | (with_reducible exact Below.refl _ _) | (with_reducible assumption) | (with_reducible refine Below.alloc ?_ ?_ _) | (with_reducible refine below_grew ?_ ?_ _) | (with_reducible refine Below.setCell ?_ ?_ _) | (with_reducible refine Below.drew ?_) | (with_reducible refine below_drewN ?_ _) | omega | (simp; done) | (simp; omega))), ?_⟩
            conv => lhs; whnf
            try rfl
          · exact fun _ => rfl
          simp only [List.nil_append, List.cons_append, Nat.reduceAdd]
          simp only [List.nil_append, List.cons_append, Nat.reduceAdd, fillPuts, Act.put, List.setIfInBounds_toArray, List.set_cons_zero, List.set_cons_succ]
          rintro U W hC ⟨h0, h1, h2, h3, h4, h5, h6, h7, -⟩ -
          simp only [h0, h1, h2, h3, h4, h5, h6, h7]
          clear h0 h1 h2 h3 h4 h5 h6 h7
          have hcall := HPU.out g (putTo s x k) S tu W (HRY.out.keep hC) H64.out (by rw [← HYK.out]; exact HYN.out.1) (by rw [← HYK.out]; exact HYN.out.2) k hlt
          rw [← HYK.out] at hcall
          have HCA := Lib.hid hcall
          have HUW := Lib.hid (HUY.out.trans (Upd.of_below hC))
          clear hcall hC
          go_wp2_with (go_at_call 67; refine HCA.out.mono ?_; rintro e w4 ⟨rfl, hu4, hr4⟩; have HU4 := Lib.hid hu4; have HR4 := Lib.hid hr4; clear hu4 hr4)
          exact ⟨⟨k + 1, by omega, by go_num, HR4.out.ext (fun i hi => HPT.out k hlt i hi), HUW.out.trans HU4.out⟩, by simp only [intOf]; omega⟩
        · obtain rfl : h = k := by omega
          have hlt' : ¬ (h : Int) < h := by omega
          have HUR := Lib.hid hu
          have HRR := Lib.hid hRr
          clear hu hRr
          go_wp2_with fail
          go_ret
          exact ⟨g, rfl, hgw, (HRR.out.ext (fun i hi => HPL.out i hi)).to_bx, HW3.out.trans ⟨HUR.out.os, HUR.out.tape, HUR.out.output, HUR.out.size, fun i hi => HUR.out.block i (by have := HW3.out.size; omega) (by omega)⟩⟩
end Go.Proofs.YtcibajleknhklaaDoor
end

section
namespace Go.Proofs.YtcibajleknhklaaDoor
open Go.RowKit
set_option linter.unusedSimpArgs false
set_option linter.unusedVariables false
/-- What the pair at j counts in sum k. -/
def cF (s k j : Nat) : Int × Int := wmul (wmul (turnF (((4 * j + 1) * 32 / 2 ^ (s + 1) : Nat) : Int)) (weightF s (j : Int) (k : Int))) (turnF ((k * 128 / 2 ^ (s + 1) : Nat) : Int))
def linTo (X C : Nat → Int × Int) : Nat → Int × Int
  | 0 => (0, 0)
  | m + 1 => ((linTo X C m).1 + (wmul (X m) (C m)).1, (linTo X C m).2 + (wmul (X m) (C m)).2)
def pairX (n : Nat) (x : Nat → Int) (j : Nat) : Int × Int := (x (2 * j), x (n - 1 - 2 * j))
theorem sum_lin (s : Nat) (x : Nat → Int) (k : Nat) : ∀ m, m ≤ 2 ^ s → wmul (sumTo s (dctZ s x) k m) (turnF ((k * 128 / 2 ^ (s + 1) : Nat) : Int)) = linTo (pairX (2 ^ (s + 1)) x) (cF s k) m
  | 0, _ => by simp [sumTo, linTo, wmul]
  | m + 1, h => by
    rw [sumTo, wmul_add', sum_lin s x k m (by omega), linTo]
    have e : wmul (term s (dctZ s x) k m) (turnF ((k * 128 / 2 ^ (s + 1) : Nat) : Int)) = wmul (pairX (2 ^ (s + 1)) x m) (cF s k m) := by
      unfold term cF
      rw [dctZ_at s x m (by omega)]
      unfold dctPair
      rw [← wmul_assoc, ← wmul_assoc, ← wmul_assoc]
      rfl
    rw [e]
theorem dctY_lin (s : Nat) (x : Nat → Int) (k : Nat) : dctY s x k = linTo (pairX (2 ^ (s + 1)) x) (cF s k) (2 ^ s) := by
  unfold dctY
  exact sum_lin s x k (2 ^ s) (Nat.le_refl _)
theorem lin_add (X Y C : Nat → Int × Int) : ∀ m, linTo (fun j => ((X j).1 + (Y j).1, (X j).2 + (Y j).2)) C m = ((linTo X C m).1 + (linTo Y C m).1, (linTo X C m).2 + (linTo Y C m).2)
  | 0 => rfl
  | m + 1 => by
    rw [linTo, lin_add X Y C m, wmul_add', linTo, linTo]
    simp only [Prod.mk.injEq]
    constructor <;> omega
def ab (p : Int) : Int := if p < 0 then -p else p
theorem ab_le (p : Int) : -(ab p) ≤ p ∧ p ≤ ab p := by unfold ab; split <;> omega
def absTo (C : Nat → Int × Int) : Nat → Int
  | 0 => 0
  | m + 1 => absTo C m + (ab (C m).1 + ab (C m).2)
theorem lin_small (G : Int) (X C : Nat → Int × Int) : ∀ m, (∀ j, j < m → small G (X j)) → small (G * absTo C m) (linTo X C m)
  | 0, _ => by unfold small linTo absTo; simp
  | m + 1, h => by
    have ih := lin_small G X C m (fun j hj => h j (by omega))
    obtain ⟨a1, a2, a3, a4⟩ := h m (by omega)
    obtain ⟨b1, b2, b3, b4⟩ := ih
    have q1 := prod_le (a := G) (b := ab (C m).1) ⟨a1, a2⟩ (ab_le (C m).1)
    have q2 := prod_le (a := G) (b := ab (C m).2) ⟨a3, a4⟩ (ab_le (C m).2)
    have q3 := prod_le (a := G) (b := ab (C m).2) ⟨a1, a2⟩ (ab_le (C m).2)
    have q4 := prod_le (a := G) (b := ab (C m).1) ⟨a3, a4⟩ (ab_le (C m).1)
    rw [linTo, absTo, Int.mul_add, Int.mul_add]
    unfold small wmul
    refine ⟨?_, ?_, ?_, ?_⟩ <;> simp only <;> omega
theorem abs_ok : ∀ s : Fin 3, ∀ k : Fin 16, k.val < 2 ^ (s.val + 2) → absTo (cF (s.val + 2) k.val) (2 ^ (s.val + 2)) ≤ 2 ^ (s.val + 3) * 2 ^ (12 * (s.val + 4)) := by decide +kernel
theorem absS (s : Nat) (h1 : 2 ≤ s) (h2 : s ≤ 4) (k : Nat) (hk : k < 2 ^ s) : absTo (cF s k) (2 ^ s) ≤ 2 ^ (s + 1) * 2 ^ (dctSh s) := by
  obtain ⟨t, rfl⟩ : ∃ t, s = t + 2 := ⟨s - 2, by omega⟩
  have h16 : 2 ^ (t + 2) ≤ 16 := Nat.pow_le_pow_right (by decide) (show t + 2 ≤ 4 from h2)
  exact abs_ok ⟨t, by omega⟩ ⟨k, by omega⟩ hk
/-- What is rounded is at most half a step away. -/
theorem rnd_err (s : Nat) (hs : 0 < s) (z : Int) : -(2 ^ (s - 1)) < 2 ^ s * rnd s z - z ∧ 2 ^ s * rnd s z - z ≤ 2 ^ (s - 1) := by
  have hM : (2 : Int) ^ s = 2 ^ (s - 1) * 2 := by conv => lhs; rw [show s = (s - 1) + 1 from by omega, Int.pow_succ]
  have hp : (0 : Int) < 2 ^ (s - 1) := Int.pow_pos (by decide)
  unfold rnd
  rw [hM]
  generalize (2 : Int) ^ (s - 1) = H at *
  rw [← Int.ediv_ediv_of_nonneg (show (0 : Int) ≤ H by omega)]
  have e := Int.emod_add_mul_ediv z H
  have t0 := Int.emod_nonneg z (show H ≠ 0 by omega)
  have t1 := Int.emod_lt_of_pos z hp
  generalize z / H = v at *
  generalize z % H = t at *
  have e2 : H * 2 * (v / 2 + v % 2) - z = H * (v % 2) - t := by
    have hv : v = 2 * (v / 2) + v % 2 := by omega
    have h3 : H * v = H * (2 * (v / 2)) + H * (v % 2) := by rw [← Int.mul_add, ← hv]
    have h4 : H * 2 * (v / 2 + v % 2) = H * (2 * (v / 2)) + (H * (v % 2) + H * (v % 2)) := by
      rw [Int.mul_add, Int.mul_assoc, Int.mul_assoc]; have : H * (2 * (v % 2)) = H * (v % 2) + H * (v % 2) := by rw [← Int.mul_add]; congr 1; omega
      omega
    omega
  rw [e2]
  have hb : v % 2 = 0 ∨ v % 2 = 1 := by omega
  rcases hb with hb | hb <;> rw [hb] <;> simp <;> omega
/-- A sample ahead of rounding. -/
def dctV (s : Nat) (x : Nat → Int) (i : Nat) : Int := if i % 2 = 0 then (dctY s x (i / 2)).1 else -(dctY s x ((2 ^ (s + 1) - 1 - i) / 2)).2
theorem dctF_V (s : Nat) (x : Nat → Int) (i : Nat) : dctF s x i = clamp32 (rnd (dctSh s) (dctV s x i)) := by
  unfold dctF dctV; split <;> rfl
theorem dctV_bd (s : Nat) (h1 : 2 ≤ s) (h2 : s ≤ 4) (G : Int) (hG : 0 ≤ G) (x : Nat → Int) (hx : ∀ j, j < 2 ^ (s + 1) → -G ≤ x j ∧ x j ≤ G) (i : Nat) (hi : i < 2 ^ (s + 1)) :
    -(G * (2 ^ (s + 1) * 2 ^ (dctSh s))) ≤ dctV s x i ∧ dctV s x i ≤ G * (2 ^ (s + 1) * 2 ^ (dctSh s)) := by
  have hn : 2 ^ (s + 1) = 2 ^ s + 2 ^ s := by rw [Nat.pow_succ]; omega
  have hX : ∀ j, j < 2 ^ s → small G (pairX (2 ^ (s + 1)) x j) := fun j hj => by
    have a := hx (2 * j) (by omega)
    have b := hx (2 ^ (s + 1) - 1 - 2 * j) (by omega)
    unfold small pairX; simp only; omega
  have key : ∀ k, k < 2 ^ s → small (G * (2 ^ (s + 1) * 2 ^ (dctSh s))) (dctY s x k) := fun k hk => by
    have a := lin_small G _ (cF s k) (2 ^ s) hX
    have b := Int.mul_le_mul_of_nonneg_left (absS s h1 h2 k hk) hG
    rw [dctY_lin]
    unfold small at a ⊢
    omega
  unfold dctV
  split
  · have := key (i / 2) (by omega)
    unfold small at this; omega
  · have := key ((2 ^ (s + 1) - 1 - i) / 2) (by omega)
    unfold small at this; omega
/-- A sample that is not held. -/
theorem dct_free (s : Nat) (h1 : 2 ≤ s) (h2 : s ≤ 4) (G : Int) (hG : 0 ≤ G) (hG2 : G ≤ 33554432) (x : Nat → Int) (hx : ∀ j, j < 2 ^ (s + 1) → -G ≤ x j ∧ x j ≤ G) (i : Nat) (hi : i < 2 ^ (s + 1)) :
    dctF s x i = rnd (dctSh s) (dctV s x i) ∧ -(32 * G + 1) ≤ dctF s x i ∧ dctF s x i ≤ 32 * G + 1 := by
  obtain ⟨b1, b2⟩ := dctV_bd s h1 h2 G hG x hx i hi
  have hs : 0 < dctSh s := by unfold dctSh; omega
  obtain ⟨e1, e2⟩ := rnd_err (dctSh s) hs (dctV s x i)
  have hM : (2 : Int) ^ (dctSh s) = 2 ^ (dctSh s - 1) * 2 := by conv => lhs; rw [show dctSh s = (dctSh s - 1) + 1 from by omega, Int.pow_succ]
  have hp : (0 : Int) < 2 ^ (dctSh s - 1) := Int.pow_pos (by decide)
  have h32 : (2 : Int) ^ (s + 1) ≤ 32 := by rcases dct_s s h1 h2 with rfl | rfl | rfl <;> decide
  have hb : G * (2 ^ (s + 1) * 2 ^ (dctSh s)) ≤ (32 * G) * 2 ^ (dctSh s) := by
    rw [← Int.mul_assoc]
    refine Int.mul_le_mul_of_nonneg_right ?_ (by omega)
    rw [Int.mul_comm 32 G]
    exact Int.mul_le_mul_of_nonneg_left h32 hG
  have key : -(32 * G + 1) ≤ rnd (dctSh s) (dctV s x i) ∧ rnd (dctSh s) (dctV s x i) ≤ 32 * G + 1 := by
    generalize rnd (dctSh s) (dctV s x i) = r at *
    generalize dctV s x i = z at *
    generalize G * (2 ^ (s + 1) * 2 ^ (dctSh s)) = B at *
    generalize 32 * G = K at *
    rw [hM] at *
    generalize (2 : Int) ^ (dctSh s - 1) = H at *
    constructor
    · rcases Int.lt_or_le r (-(K + 1)) with h | h
      · have := Int.mul_le_mul_of_nonneg_left (show r ≤ -(K + 2) by omega) (show 0 ≤ H * 2 by omega)
        have e : H * 2 * -(K + 2) = -(K * (H * 2)) - H * 2 * 2 := by grind
        omega
      · exact h
    · rcases Int.lt_or_le (K + 1) r with h | h
      · have := Int.mul_le_mul_of_nonneg_left (show K + 2 ≤ r by omega) (show 0 ≤ H * 2 by omega)
        have e : H * 2 * (K + 2) = K * (H * 2) + H * 2 * 2 := by grind
        omega
      · exact h
  have ec : dctF s x i = rnd (dctSh s) (dctV s x i) := by
    rw [dctF_V]; unfold clamp32; omega
  rw [ec]
  exact ⟨rfl, key⟩
end Go.Proofs.YtcibajleknhklaaDoor
end

section
namespace Go.Proofs.YtcibajleknhklaaDoor
open Go.RowKit Go.BigFrame Go.Proofs.YtcibajleknhklaaDoorW.PrintWords Go.Proofs.YtcibajleknhklaaDoorW.PrintLast Go.Proofs.YtcibajleknhklaaDoorW.PrintMore
set_option linter.unusedSimpArgs false
set_option linter.unusedVariables false
abbrev k32 : Nat → IntKind := fun _ => .i32
set_option maxHeartbeats 2000000 in
set_option maxRecDepth 100000 in
theorem awake22 (w : World) (hT : CosW w) :
    Calls Tryd.prog 24 #[] w fun e w' => e = .returned (.bool true) ∧ Below w.heap.size w w' := by
  have hp := fun b c x w hT hb hx hx32 => dctPlain_any 2 (by decide) (by decide) b 0 c x w hT hb hx hx32
  simp only [Nat.reducePow, Nat.reduceAdd, Nat.zero_add] at hp
  have e0 : dctF 2 (fun _ => 0) 3 = 0 := by decide +kernel
  have e1 : dctF 2 (fun i => if i = 0 then 4096 else 0) 0 = 4076 := by decide +kernel
  have HP := Lib.hid hp
  have HC := Lib.hid hT
  have E0 := Lib.hid e0
  have E1 := Lib.hid e1
  clear hp hT e0 e1
  go_enter Tryd.func24, Tryd.ntmps24
  go_wp2_with (at_make; refine make_block _ rfl _ _ _ rfl 21 (.int .i32 0) 1 4 (by kernel_rfl) (by kernel_rfl) 8 rfl rfl (by omega) (by omega) k32 i32_zero ?_)
  refine (HP.out w.heap.size 8 (fun _ => 0) _ (HC.out.below (by (repeat' (first | (with_reducible exact Below.refl _ _) | (with_reducible assumption) | (with_reducible refine Below.alloc ?_ ?_ _) | (with_reducible refine below_grew ?_ ?_ _) | (with_reducible refine Below.setCell ?_ ?_ _) | (with_reducible refine Below.drew ?_) | (with_reducible refine below_drewN ?_ _) | omega | (simp; done) | (simp; omega))))) (by simp) (fun i hi => ag_cell (alloc_at _ _) i hi) (fun _ => by decide)).mono ?_
  rintro e w1 ⟨g, rfl, hg, hbg, hb1⟩
  have hB1 : Below w.heap.size w w1 := Below.trans (by (repeat' (first | (with_reducible exact Below.refl _ _) | (with_reducible assumption) | (with_reducible refine Below.alloc ?_ ?_ _) | (with_reducible refine below_grew ?_ ?_ _) | (with_reducible refine Below.setCell ?_ ?_ _) | (with_reducible refine Below.drew ?_) | (with_reducible refine below_drewN ?_ _) | omega | (simp; done) | (simp; omega)))) (hb1.mono (by simp))
  have HB1 := Lib.hid hB1
  have HG := Lib.hid hbg
  have hs1 := hB1.size
  clear hbg hb1 hB1 hg
  go_wp2_with fail
  refine (HP.out w1.heap.size 8 (fun i => if i = 0 then 4096 else 0) _ (HC.out.below (by have := HB1.out; (repeat' (first | (with_reducible exact Below.refl _ _) | (with_reducible assumption) | (with_reducible refine Below.alloc ?_ ?_ _) | (with_reducible refine below_grew ?_ ?_ _) | (with_reducible refine Below.setCell ?_ ?_ _) | (with_reducible refine Below.drew ?_) | (with_reducible refine below_drewN ?_ _) | omega | (simp; done) | (simp; omega))))) (by simp) ?_ (fun i => by split <;> decide)).mono ?_
  · intro i hi
    have : i = 0 ∨ i = 1 ∨ i = 2 ∨ i = 3 ∨ i = 4 ∨ i = 5 ∨ i = 6 ∨ i = 7 := by omega
    rcases this with rfl | rfl | rfl | rfl | rfl | rfl | rfl | rfl <;> simp [go_sem]
  rintro e w2 ⟨g2, rfl, hg2, hbg2, hb2⟩
  have hB2 : Below w.heap.size w w2 := Below.trans (by have := HB1.out; (repeat' (first | (with_reducible exact Below.refl _ _) | (with_reducible assumption) | (with_reducible refine Below.alloc ?_ ?_ _) | (with_reducible refine below_grew ?_ ?_ _) | (with_reducible refine Below.setCell ?_ ?_ _) | (with_reducible refine Below.drew ?_) | (with_reducible refine below_drewN ?_ _) | omega | (simp; done) | (simp; omega)))) (hb2.mono (by simp; omega))
  have c0 := ag_cell ((HG.out.keep (by (repeat' (first | (with_reducible exact Below.refl _ _) | (with_reducible assumption) | (with_reducible refine Below.alloc ?_ ?_ _) | (with_reducible refine below_grew ?_ ?_ _) | (with_reducible refine Below.setCell ?_ ?_ _) | (with_reducible refine Below.drew ?_) | (with_reducible refine below_drewN ?_ _) | omega | (simp; done) | (simp; omega))))).keep hb2) 3 (by decide)
  have c1 := ag_cell hbg2 0 (by decide)
  rw [E0.out] at c0
  rw [E1.out] at c1
  have l1 := (block_facts ((HG.out.keep (by (repeat' (first | (with_reducible exact Below.refl _ _) | (with_reducible assumption) | (with_reducible refine Below.alloc ?_ ?_ _) | (with_reducible refine below_grew ?_ ?_ _) | (with_reducible refine Below.setCell ?_ ?_ _) | (with_reducible refine Below.drew ?_) | (with_reducible refine below_drewN ?_ _) | omega | (simp; done) | (simp; omega))))).keep hb2)).2.2
  have l2 := (block_facts hbg2).2.2
  have HB2 := Lib.hid hB2
  clear hB2 hb2 hbg2 hg2
  go_wp2_with fail
  go_ret
  exact ⟨rfl, HB2.out⟩
abbrev T32 := 42
end Go.Proofs.YtcibajleknhklaaDoor
end

