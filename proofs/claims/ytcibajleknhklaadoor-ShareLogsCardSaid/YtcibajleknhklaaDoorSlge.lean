/-
  What is given fits the budget, and the next pulse would not: the plain law.
  (One text out of these parts: Kit, Idx, Tab, TabV, CostP, Len, SheetW, Sheet, Eq, Rgn, RgnI, Flat, Wf, Base, Book, BookV, CostB, SheetC, Mode, Slope, ShareW, Total, Best, Alloc, AllocF.)
-/
import Derived.Test.YtcibajleknhklaaDoorSlgd
import Derived.Deep.Quiet
import Derived.StillTail
import Derived.BigQuiet
import Derived.Below
import Derived.WalkKit
import Derived.WalkLawsBesides
import Derived.Lib.Hide
import Derived.Carry
import Derived.IntWalk
import Derived.Maps.AppendAt
import Derived.OwnWalk
import Derived.KernelRfl
import Derived.Laws.PanicsMore
import Derived.Test.YtcibajleknhklaaDoorProg
import Derived.StillTailTactics
import Derived.Deep.MidRow
import Derived.Lib.BitFns
import Derived.Laws.Externs
import Derived.Test.YtcibajleknhklaaDoorShelf
import Derived.Laws.StructEq
import Derived.OpenShut
import Derived.Laws.CopyOwn
import Derived.Laws.Tables
import Derived.Laws.ResultCell
import Derived.Laws.Rows
import Derived.Lib.SliceRun
import Derived.Test.YtcibajleknhklaaDoorWWords
import Derived.Test.YtcibajleknhklaaDoorWLast
import Derived.Test.YtcibajleknhklaaDoorWMore
section
namespace Go
open Go.RowKit
/-- Blocks more, and another count of draws. -/
structure Grown.By where
  objs : Array Obj
  drawn : Nat
instance : Inhabited Grown.By := ⟨⟨#[], 0⟩⟩
/-- 'w' with blocks more, and another count of draws. -/
def World.grew (w : World) (x : Grown.By) : World := { w with heap := w.heap ++ x.objs, drawn := x.drawn }
section
variable (w : World) (x y : Grown.By)
theorem World.grew_block (k : Nat) (h : k < w.heap.size) : (w.grew x).heap[k]? = w.heap[k]? := by
  show (w.heap ++ x.objs)[k]? = _
  rw [Array.getElem?_append_left h]
@[simp, go_sem] theorem World.size_grew : (w.grew x).heap.size = w.heap.size + x.objs.size := by
  show (w.heap ++ x.objs).size = _
  simp
@[go_sem] theorem World.grew_grew : (w.grew x).grew y = w.grew ⟨x.objs ++ y.objs, y.drawn⟩ := by
  unfold World.grew
  simp [Array.append_assoc]
@[go_sem] theorem World.drew_grew : (w.grew x).drew = w.grew ⟨x.objs, x.drawn + 1⟩ := rfl
@[go_sem] theorem World.grew_drew : w.drew.grew x = w.grew x := rfl
@[go_sem] theorem World.grew_drewN (n : Nat) : (w.drewN n).grew x = w.grew x := rfl
@[go_sem] theorem World.drewN_grew (n : Nat) : (w.grew x).drewN n = w.grew ⟨x.objs, x.drawn + n⟩ := rfl
@[go_sem] theorem World.cell?_grew (n i : Nat) (s : Option Nat) (hn : n < w.heap.size) : (w.grew x).cell? ⟨n, i, s⟩ = w.cell? ⟨n, i, s⟩ := by
  unfold World.cell?
  rw [World.grew_block w x n hn]
@[go_sem] theorem World.frozen?_grew (n i : Nat) (s : Option Nat) (hn : n < w.heap.size) : (w.grew x).frozen? ⟨n, i, s⟩ = w.frozen? ⟨n, i, s⟩ := by
  unfold World.frozen?
  rw [World.grew_block w x n hn]
@[go_sem] theorem World.shape?_grew (n : Nat) (hn : n < w.heap.size) : (w.grew x).shape? n = w.shape? n := by
  unfold World.shape?
  rw [World.grew_block w x n hn]
@[go_sem] theorem World.setCell_grew (n i : Nat) (s : Option Nat) (v : Value) (hn : n < w.heap.size) : (w.grew x).setCell ⟨n, i, s⟩ v = (w.setCell ⟨n, i, s⟩ v).grew x := by
  unfold World.setCell World.grew
  congr 1
  apply Array.ext_getElem?
  intro k
  simp only [Array.getElem?_modify, Array.getElem?_append, Array.size_modify]
  by_cases hk : k < w.heap.size
  · simp [hk]
  · simp [hk]
    intro h; omega
@[go_sem] theorem World.heap_grew (k : Nat) (hk : k < w.heap.size) : (w.grew x).heap[k]? = w.heap[k]? := World.grew_block w x k hk
@[simp] theorem World.os_grew : (w.grew x).os = w.os := rfl
@[simp] theorem World.tape_grew : (w.grew x).tape = w.tape := rfl
end
@[go_sem] theorem lt_add_of_lt1 (a b c0 : Nat) (h : a < b) : (a < b + c0) = True := eq_true (by omega)
@[go_sem] theorem le_add_of_lt1 (a b c0 : Nat) (h : a < b) : (a ≤ b + c0) = True := eq_true (by omega)
@[go_sem] theorem ne_add_of_lt1 (a b c0 : Nat) (h : a < b) : (a = b + c0) = False := eq_false (by omega)
@[go_sem] theorem lt_add_of_lt2 (a b c0 c1 : Nat) (h : a < b) : (a < b + c0 + c1) = True := eq_true (by omega)
@[go_sem] theorem le_add_of_lt2 (a b c0 c1 : Nat) (h : a < b) : (a ≤ b + c0 + c1) = True := eq_true (by omega)
@[go_sem] theorem ne_add_of_lt2 (a b c0 c1 : Nat) (h : a < b) : (a = b + c0 + c1) = False := eq_false (by omega)
@[go_sem] theorem lt_add_of_lt3 (a b c0 c1 c2 : Nat) (h : a < b) : (a < b + c0 + c1 + c2) = True := eq_true (by omega)
@[go_sem] theorem le_add_of_lt3 (a b c0 c1 c2 : Nat) (h : a < b) : (a ≤ b + c0 + c1 + c2) = True := eq_true (by omega)
@[go_sem] theorem ne_add_of_lt3 (a b c0 c1 c2 : Nat) (h : a < b) : (a = b + c0 + c1 + c2) = False := eq_false (by omega)
@[go_sem] theorem lt_add_of_lt4 (a b c0 c1 c2 c3 : Nat) (h : a < b) : (a < b + c0 + c1 + c2 + c3) = True := eq_true (by omega)
@[go_sem] theorem le_add_of_lt4 (a b c0 c1 c2 c3 : Nat) (h : a < b) : (a ≤ b + c0 + c1 + c2 + c3) = True := eq_true (by omega)
@[go_sem] theorem ne_add_of_lt4 (a b c0 c1 c2 c3 : Nat) (h : a < b) : (a = b + c0 + c1 + c2 + c3) = False := eq_false (by omega)
@[go_sem] theorem lt_add_of_lt5 (a b c0 c1 c2 c3 c4 : Nat) (h : a < b) : (a < b + c0 + c1 + c2 + c3 + c4) = True := eq_true (by omega)
@[go_sem] theorem le_add_of_lt5 (a b c0 c1 c2 c3 c4 : Nat) (h : a < b) : (a ≤ b + c0 + c1 + c2 + c3 + c4) = True := eq_true (by omega)
@[go_sem] theorem ne_add_of_lt5 (a b c0 c1 c2 c3 c4 : Nat) (h : a < b) : (a = b + c0 + c1 + c2 + c3 + c4) = False := eq_false (by omega)
@[go_sem] theorem le_self2 (a c0 c1 : Nat) : (a ≤ a + c0 + c1) = True := eq_true (by omega)
@[go_sem] theorem le_self3 (a c0 c1 c2 : Nat) : (a ≤ a + c0 + c1 + c2) = True := eq_true (by omega)
@[go_sem] theorem le_self4 (a c0 c1 c2 c3 : Nat) : (a ≤ a + c0 + c1 + c2 + c3) = True := eq_true (by omega)
@[go_sem] theorem le_self5 (a c0 c1 c2 c3 c4 : Nat) : (a ≤ a + c0 + c1 + c2 + c3 + c4) = True := eq_true (by omega)
@[go_sem] theorem le_self6 (a c0 c1 c2 c3 c4 c5 : Nat) : (a ≤ a + c0 + c1 + c2 + c3 + c4 + c5) = True := eq_true (by omega)
@[go_sem] theorem lt_self1 (a c0 : Nat) : (a < a + 1 + c0) = True := eq_true (by omega)
@[go_sem] theorem ne_self1 (a c0 : Nat) : (a = a + 1 + c0) = False := eq_false (by omega)
@[go_sem] theorem lt_self2 (a c0 c1 : Nat) : (a < a + 1 + c0 + c1) = True := eq_true (by omega)
@[go_sem] theorem ne_self2 (a c0 c1 : Nat) : (a = a + 1 + c0 + c1) = False := eq_false (by omega)
@[go_sem] theorem lt_self3 (a c0 c1 c2 : Nat) : (a < a + 1 + c0 + c1 + c2) = True := eq_true (by omega)
@[go_sem] theorem ne_self3 (a c0 c1 c2 : Nat) : (a = a + 1 + c0 + c1 + c2) = False := eq_false (by omega)
@[go_sem] theorem lt_self4 (a c0 c1 c2 c3 : Nat) : (a < a + 1 + c0 + c1 + c2 + c3) = True := eq_true (by omega)
@[go_sem] theorem ne_self4 (a c0 c1 c2 c3 : Nat) : (a = a + 1 + c0 + c1 + c2 + c3) = False := eq_false (by omega)
@[go_sem] theorem lt_self5 (a c0 c1 c2 c3 c4 : Nat) : (a < a + 1 + c0 + c1 + c2 + c3 + c4) = True := eq_true (by omega)
@[go_sem] theorem ne_self5 (a c0 c1 c2 c3 c4 : Nat) : (a = a + 1 + c0 + c1 + c2 + c3 + c4) = False := eq_false (by omega)
theorem World.grew_none (w : World) : w.grew ⟨#[], w.drawn⟩ = w := by unfold World.grew; simp
theorem World.as_grew (w : World) : ∃ x, w = w.grew x := ⟨_, (World.grew_none w).symm⟩
theorem below_grew {B : Nat} {a w : World} (h : Below B a w) (hB : B ≤ w.heap.size) (x : Grown.By) : Below B a (w.grew x) :=
  h.trans ⟨rfl, rfl, rfl, by simp, fun k hk => World.grew_block _ _ _ (by omega)⟩
/-- What lies below the size of 'w' is as it was: so w' is w, grown. -/
theorem below_as_grew {w w' : World} (h : Below w.heap.size w w') : ∃ x : Grown.By, w' = w.grew x := by
  refine ⟨⟨w'.heap.extract w.heap.size w'.heap.size, w'.drawn⟩, ?_⟩
  have hh : w'.heap = w.heap ++ w'.heap.extract w.heap.size w'.heap.size := by
    apply Array.ext_getElem?
    intro k
    rw [Array.getElem?_append]
    by_cases hk : k < w.heap.size
    · rw [if_pos hk, h.block k hk]
    · rw [if_neg hk, Array.getElem?_extract]
      by_cases h2 : k < w'.heap.size
      · rw [if_pos (by omega)]
        congr 1; omega
      · rw [if_neg (by omega)]
        simp; omega
  obtain ⟨hp, tp, dr, os, out⟩ := w'
  obtain ⟨a1, a2, a3, a4, a5⟩ := h
  simp only at *
  subst a1 a2 a3
  unfold World.grew
  simp only
  congr 1
section
variable {P : Program} {ops : Array Oper} {md : Region.Mode} {C : World → Prop}
def headQ (P : Program) (md : Region.Mode) (ops : Array Oper) (C : World → Prop) (n : Nat) (L : Array Bool → Act → Prop) : Nat → Array Bool → Act → Prop
  | 0, listed, a => L listed a
  | f + 1, listed, a =>
    Region.ready md ops listed ≠ [] ∧ ∀ i ∈ Region.ready md ops listed, i < n ∧ qOp P ops C i (headQ P md ops C n L f (listed.setIfInBounds i true)) a
theorem wpAny_of_headQ {n g : Nat} {L : Array Bool → Act → Prop} {Q' : Exit → Act → World → Prop} (hL : ∀ listed a w, C w → L listed a → wpAny P md ops Q' g listed a w) :
    ∀ (f : Nat) (listed : Array Bool) (a : Act) (w : World), C w → headQ P md ops C n L f listed a → wpAny P md ops Q' (f + g) listed a w
  | 0, listed, a, w, hw, h => by rw [Nat.zero_add]; exact hL _ _ _ hw h
  | f + 1, listed, a, w, hw, h => by
    rw [show f + 1 + g = (f + g) + 1 by omega]
    exact ⟨fun h0 => absurd h0 h.1, fun i hi => wpOp_of_qOp hw (fun a' w' hw' h' => wpAny_of_headQ hL f _ a' w' hw' h') (h.2 i hi).2⟩
theorem headQ_first {n i : Nat} {oi : Oper} {v : Value} {L : Array Bool → Act → Prop} (hi : ops[i]? = some oi) (hsel : ∀ (j : Nat) (o : Oper) cs b, ops[j]? = some o → o.op ≠ .select cs b)
    (hs : Region.sinkB md ops n = true) (hc : Region.chainB md ops n = true) (hn : n < ops.size) (hin : i < n)
    (hdone : ∀ listed a, L listed a → ∀ j ∈ Region.ready md ops listed, n ≤ j) :
    ∀ (f : Nat) (listed : Array Bool) (a : Act), HeadInv md ops n listed →
      (∀ j oj, ops[j]? = some oj → j ≠ i → listed.getD j true = false → (∀ e ∈ oj.after, Region.binds md e = true → e.on ≠ i) → oi.apart ops oj = true) →
      i ∈ Region.ready md ops listed → YieldsIn P ops C oi v a →
      headQ P md ops C n L f (listed.setIfInBounds i true) (a.put oi.dst v) → headQ P md ops C n L (f + 1) listed a := by
  intro f
  induction f with
  | zero =>
    intro listed a inv _ hr hy H
    have hun := (mem_ready.1 hr).1
    refine ⟨fun h => (by rw [h] at hr; cases hr), fun j hj => ?_⟩
    have hjn : j < n := by
      rcases Nat.lt_or_ge j n with h | h
      · exact h
      · exact absurd hj (tail_waits hs hc hn inv _ i rfl hin hun j h)
    refine ⟨hjn, ?_⟩
    by_cases hji : j = i
    · subst hji; exact hy.qOp hi H
    · have := hdone _ _ H j (ready_mono hj hji)
      omega
  | succ f ih =>
    intro listed a inv hfree hr hy H
    have hun := (mem_ready.1 hr).1
    refine ⟨fun h => (by rw [h] at hr; cases hr), fun j hj => ?_⟩
    have hjn : j < n := by
      rcases Nat.lt_or_ge j n with h | h
      · exact h
      · exact absurd hj (tail_waits hs hc hn inv _ i rfl hin hun j h)
    refine ⟨hjn, ?_⟩
    by_cases hji : j = i
    · subst hji; exact hy.qOp hi H
    · have h1 := (H.2 j (ready_mono hj hji)).2
      obtain ⟨hjun, oj, hoj, hall⟩ := mem_ready.1 hj
      have hnot : ∀ e ∈ oj.after, Region.binds md e = true → e.on ≠ i := fun e he hb heq => by
        have h1 := hall e he hb
        rw [heq, getD_both hun] at h1
        cases h1
      have h2 := qOp_put hoj (hfree j oj hoj hji hjun hnot) (fun cs b => hsel i oi cs b hi) (fun cs b => hsel j oj cs b hoj) hy h1
      have hfree' : ∀ k ok, ops[k]? = some ok → k ≠ i → (listed.setIfInBounds j true).getD k true = false →
          (∀ e ∈ ok.after, Region.binds md e = true → e.on ≠ i) → oi.apart ops ok = true := fun k ok hk hki hun hno => by
        refine hfree k ok hk hki ?_ hno
        by_cases hjk : j = k
        · subst hjk; exact hjun
        · rw [getD_set_ne true hjk] at hun; exact hun
      refine qOp_mono (fun a' h3 => ih (listed.setIfInBounds j true) a' (inv.set hj hjn) hfree' (ready_mono hr (Ne.symm hji)) h3.1 ?_) h2
      rw [Array.setIfInBounds_comm _ _ hji]
      exact h3.2
theorem headQ_lex {n g : Nat} {Lq : Act → Prop} (hsel : Region.noSelect ops = true) (hs : Region.sinkB md ops n = true) (hc : Region.chainB md ops n = true) (hn : n < ops.size) :
    ∀ (l : List Oper) (k : Nat) (listed : Array Bool) (a : Act), (∀ j, j < l.length → l[j]? = ops[k + j]?) → k + l.length = n → HeadInv md ops n listed →
    Region.lexHead md ops g l.length k listed = true → wpQuiet P ops C Lq l a →
    headQ P md ops C n (fun listed' a' => Region.seqB md ops g n listed' = true ∧ Lq a') l.length listed a
  | [], k, listed, a, _, hk, _, hB, h => by
    have : k = n := by simpa using hk
    subst this
    exact ⟨by simpa [Region.lexHead] using hB, h⟩
  | o :: l, k, listed, a, hl, hk, inv, hB, h => by
    have h0 : ops[k]? = some o := by simpa using (hl 0 (by simp)).symm
    simp only [List.length_cons, Region.lexHead, Bool.and_eq_true] at hB
    obtain ⟨⟨hr, hf⟩, hB'⟩ := hB
    have hkn : k < n := by simp only [List.length_cons] at hk; omega
    have hr' : k ∈ Region.ready md ops listed := by simpa using hr
    have hst : qOp P ops C k (wpQuiet P ops C Lq l) a := by unfold qOp; simp only [h0]; exact h
    obtain ⟨v, hy, hK⟩ := yieldsIn_of_qOp h0 hst
    exact headQ_first h0 (Region.noSelect_spec hsel) hs hc hn hkn (fun listed' a' hL => seqB_ready hL.1) l.length listed a inv (Region.free_spec h0 hf) hr' hy
      (headQ_lex hsel hs hc hn l (k + 1) _ _ (fun j hj => by have := hl (j + 1) (by simp; omega); simpa [Nat.add_assoc, Nat.add_comm 1 j] using this) (by simp only [List.length_cons] at hk; omega) (inv.set hr' hkn) hB' hK)
theorem wp_region_headQ {id : Nat} {Q : Exit → Act → World → Prop} {a : Act} {w : World} {l : List Oper} (n : Nat) (hm : P.follows .mixedOrders = true) (hB : Region.lexTailB .any l.toArray n = true)
    (hC : C { w with drawn := w.drawn + 1 })
    (h : wpQuiet P l.toArray C (fun a' => ∀ w', C w' → wpList P l.toArray Q (l.drop n) a' w') (l.take n) a) : (Code.region id l.toArray true).wp P Q a w := by
  simp only [Region.lexTailB, Bool.and_eq_true, decide_eq_true_eq] at hB
  obtain ⟨⟨⟨⟨hsel, hn⟩, hs⟩, hc⟩, hlex⟩ := hB
  have hn' : n < l.length := by simpa using hn
  have htl : (l.take n).length = n := by simp; omega
  have hdl : (l.drop n).length = l.toArray.size - n := by simp
  have inv0 : HeadInv .any l.toArray n (Array.replicate l.toArray.size false) :=
    ⟨by simp, fun j oj _ hl => (by rw [getD_replicate_false] at hl; cases hl), fun t _ ht => getD_in (by simpa using ht) (getD_replicate_false _ _)⟩
  have hhead := headQ_lex (P := P) (C := C) (md := .any) (ops := l.toArray) (n := n) (g := l.toArray.size - n) hsel hs hc hn (l.take n) 0 (Array.replicate l.toArray.size false) a
    (fun j hj => by rw [htl] at hj; simp [hj]) (by simpa using htl) inv0 (by rw [htl]; exact hlex) h
  rw [htl] at hhead
  refine wp_region_any hm ?_
  have := wpAny_of_headQ (P := P) (C := C) (md := .any) (ops := l.toArray) (Q' := Q) (g := l.toArray.size - n)
    (fun listed a' w' hw' hL => by
      have hq := wpAny_of_seq (P := P) (md := .any) (ops := l.toArray) (Q' := Q) (l.drop n) n listed a' w' (fun j => by simp [List.getElem?_drop]) (by rw [hdl]; exact hL.1) (hL.2 w' hw')
      rwa [hdl] at hq) n _ a _ hC hhead
  have e : n + (l.toArray.size - n) = l.toArray.size := by omega
  rwa [e] at this
/-- The class: the world at hand, grown. -/
theorem wp_region_grew {id : Nat} {Q : Exit → Act → World → Prop} {a : Act} {w : World} {l : List Oper} (n : Nat) (hm : P.follows .mixedOrders = true) (hB : Region.lexTailB .any l.toArray n = true)
    (h : wpQuiet P l.toArray (fun w' => ∃ x, w' = w.grew x) (fun a' => ∀ w', (∃ x, w' = w.grew x) → wpList P l.toArray Q (l.drop n) a' w') (l.take n) a) : (Code.region id l.toArray true).wp P Q a w :=
  wp_region_headQ n hm hB ⟨⟨#[], w.drawn + 1⟩, by unfold World.grew; simp⟩ h
/-- A region all of whose operations are quiet. -/
theorem wp_region_grew_all {id : Nat} {Q : Exit → Act → World → Prop} {a : Act} {w : World} {l : List Oper} (hm : P.follows .mixedOrders = true) (hB : Region.lexB .any l.toArray = true)
    (h : wpQuiet P l.toArray (fun w' => ∃ x, w' = w.grew x) (fun a' => ∀ w', (∃ x, w' = w.grew x) → Q .normal a' w') l a) : (Code.region id l.toArray true).wp P Q a w :=
  wp_region_quiet (C := fun w' => ∃ x, w' = w.grew x) hm hB ⟨⟨#[], w.drawn + 1⟩, by unfold World.grew; simp⟩ (by simpa using h)
theorem wp_region_grew2 {id : Nat} {Q : Exit → Act → World → Prop} {a : Act} {w : World} {x0 : Grown.By} {l : List Oper} (n : Nat) (hm : P.follows .mixedOrders = true) (hB : Region.lexTailB .any l.toArray n = true)
    (h : wpQuiet P l.toArray (fun w' => ∃ x, w' = w.grew x) (fun a' => ∀ w', (∃ x, w' = w.grew x) → wpList P l.toArray Q (l.drop n) a' w') (l.take n) a) : (Code.region id l.toArray true).wp P Q a (w.grew x0) :=
  wp_region_headQ n hm hB ⟨⟨x0.objs, x0.drawn + 1⟩, rfl⟩ h
theorem wp_region_grew_all2 {id : Nat} {Q : Exit → Act → World → Prop} {a : Act} {w : World} {x0 : Grown.By} {l : List Oper} (hm : P.follows .mixedOrders = true) (hB : Region.lexB .any l.toArray = true)
    (h : wpQuiet P l.toArray (fun w' => ∃ x, w' = w.grew x) (fun a' => ∀ w', (∃ x, w' = w.grew x) → Q .normal a' w') l a) : (Code.region id l.toArray true).wp P Q a (w.grew x0) :=
  wp_region_quiet (C := fun w' => ∃ x, w' = w.grew x) hm hB ⟨⟨x0.objs, x0.drawn + 1⟩, rfl⟩ (by simpa using h)
/-- A contract that makes memory, met in a grown world. -/
theorem Calls.grew_of {f : FuncId} {args : Array Value} {w : World} {x : Grown.By} {v : Value}
    (h : Calls P f args (w.grew x) fun e w' => e = .returned v ∧ Below (w.grew x).heap.size (w.grew x) w') : Calls P f args (w.grew x) fun e w'' => e = .returned v ∧ ∃ y, w'' = w.grew y :=
  h.mono fun _ _ ⟨he, hb⟩ => ⟨he, by
    obtain ⟨y, hy⟩ := below_as_grew hb
    exact ⟨_, hy.trans (World.grew_grew w x y)⟩⟩
end
theorem ret_int {k : IntKind} {a b : Int} (h : a = b) : Ending.returned (.int k a) = .returned (.int k b) := by rw [h]
theorem ret_bool {a b : Bool} (h : a = b) : Ending.returned (.bool a) = .returned (.bool b) := by rw [h]
def TabW (g n : Nat) (k : IntKind) (zs : List Int) (w : World) : Prop := g < w.heap.size ∧ ∀ j : Nat, j < n → w.cell? ⟨g, j, none⟩ = some (.int k (zs.getD j 0))
theorem TabW.below {g n : Nat} {k : IntKind} {zs : List Int} {w w' : World} (h : TabW g n k zs w) (hb : Below w.heap.size w w') : TabW g n k zs w' :=
  ⟨Nat.lt_of_lt_of_le h.1 hb.size, fun j hj => (hb.cell (p := ⟨g, j, none⟩) h.1).trans (h.2 j hj)⟩
theorem max2_i (k k' : IntKind) (x y : Int) : Builtin.max2 (.int k x) (.int k' y) = pure (.int k (max x y)) := by
  simp only [Builtin.max2]
  congr 2
  split <;> omega
theorem min2_i (k k' : IntKind) (x y : Int) : Builtin.min2 (.int k x) (.int k' y) = pure (.int k (min x y)) := by
  simp only [Builtin.min2]
  congr 2
  split <;> omega
theorem max_2 (ats : Array TypeId) (ty : TypeId) (a b : Value) : Builtin.max_ ats ty #[a, b] = (Builtin.max2 a b >>= fun s => pure s) := by simp only [Builtin.max_, List.foldlM_cons, List.foldlM_nil]
theorem min_2 (ats : Array TypeId) (ty : TypeId) (a b : Value) : Builtin.min_ ats ty #[a, b] = (Builtin.min2 a b >>= fun s => pure s) := by simp only [Builtin.min_, List.foldlM_cons, List.foldlM_nil]
theorem max_3 (ats : Array TypeId) (ty : TypeId) (a b c : Value) : Builtin.max_ ats ty #[a, b, c] = (Builtin.max2 a b >>= fun s => Builtin.max2 s c >>= fun s => pure s) := by simp only [Builtin.max_, List.foldlM_cons, List.foldlM_nil]
theorem min_3 (ats : Array TypeId) (ty : TypeId) (a b c : Value) : Builtin.min_ ats ty #[a, b, c] = (Builtin.min2 a b >>= fun s => Builtin.min2 s c >>= fun s => pure s) := by simp only [Builtin.min_, List.foldlM_cons, List.foldlM_nil]
attribute [go_sem] max2_i min2_i max_2 min_2 max_3 min_3
end Go
end

section
namespace Go
open Go.RowKit
theorem run_index_one {P : Program} (t e : TypeId) (n : Nat) (cs : Array Value) (k : Nat) (x : Value) (d : TypeDesc) (h : P.underlying t = some (.array n e)) (he : P.underlying e = some d) (hd : (∀ fs, d ≠ .struct fs) ∧ (∀ m f, d ≠ .array m f)) (hi : (P.info? e).map (·.size) = some 1) (hk : k < n) (hx : cs[k]? = some x) (w : World) :
    (Instr.index t (.agg cs) (.int .i64 k)).run P w = .ok x w := by
  have hagg : (isAgg e).run P w = .ok false w := by
    unfold isAgg
    rw [Sem.run_bind, run_underlying he w]
    cases d <;> simp_all
  cases hq : P.info? e with
  | none => simp [hq] at hi
  | some i =>
    have hs : i.size = 1 := by simpa [hq] using hi
    unfold Instr.index
    simp [Sem.run_bind, asIntOf, run_underlying h, hagg, sizeOf, typeInfo, hq, hs, part, hx, go_sem]
    omega
end Go
end

section
namespace Go.Proofs.YtcibajleknhklaaDoor
open Go.RowKit Go.BigFrame Go.Vec
set_option linter.unusedSimpArgs false
def tabZ : Array Value := Array.replicate 1139 (.int .u64 0)
theorem tab_zero : ∃ cs, (∀ w, (zeroValue 192).run Tryd.prog w = .ok (.agg cs) w) ∧ cs.size = 1139 ∧ ∀ i, i < 1139 → cs[i]? = some (.int .u64 0) := by
  refine ⟨tabZ, fun _ => by kernel_rfl, by unfold tabZ; simp, fun i hi => ?_⟩
  unfold tabZ
  simp [hi]
/-- What stands in the table: V, and what V add up to. -/
def sm (n : Nat) : Nat → Nat
  | 0 => 0
  | k + 1 => sm n k + v n k
def tabG (i j : Nat) : Nat := if j < 33 then v i j else sm i (j - 33)
theorem tabG_le : ∀ i : Fin 17, ∀ j : Fin 67, tabG i.val j.val ≤ 4000000000000000000 := by decide +kernel
/-- Cells that are whole numbers; those that D names are as they shall be. -/
structure TabSt (cs : Array Value) (D : Nat → Nat → Prop) : Prop where
  size : cs.size = 1139
  at_ : ∀ i j, i < 17 → j < 67 → ∃ y : Int, cs[i * 67 + j]? = some (.int .u64 y) ∧ (D i j → y = (tabG i j : Nat))
theorem TabSt.done {cs : Array Value} {D : Nat → Nat → Prop} (h : TabSt cs D) (i j : Nat) (hi : i < 17) (hj : j < 67) (hd : D i j) : cs[i * 67 + j]? = some (.int .u64 (tabG i j : Nat)) := by
  obtain ⟨y, h1, h2⟩ := h.at_ i j hi hj
  rw [h1, h2 hd]
theorem TabSt.imp {cs : Array Value} {D D' : Nat → Nat → Prop} (h : TabSt cs D) (hd : ∀ i j, i < 17 → j < 67 → D' i j → D i j) : TabSt cs D' :=
  ⟨h.size, fun i j hi hj => by
    obtain ⟨y, h1, h2⟩ := h.at_ i j hi hj
    exact ⟨y, h1, fun d => h2 (hd i j hi hj d)⟩⟩
theorem TabSt.set {cs : Array Value} {D D' : Nat → Nat → Prop} (h : TabSt cs D) (i0 j0 : Nat) (hi : i0 < 17) (hj : j0 < 67) (x : Int) (hx : x = (tabG i0 j0 : Nat)) (o : Nat) (ho : o = i0 * 67 + j0)
    (hd : ∀ i j, i < 17 → j < 67 → D' i j → D i j ∨ (i = i0 ∧ j = j0)) : TabSt (cs.setIfInBounds o (.int .u64 x)) D' := by
  subst ho hx
  refine ⟨by simp [h.size], fun i j hi' hj' => ?_⟩
  by_cases e : i = i0 ∧ j = j0
  · obtain ⟨rfl, rfl⟩ := e
    exact ⟨_, Array.getElem?_setIfInBounds_self_of_lt (by rw [h.size]; omega), fun _ => rfl⟩
  · obtain ⟨y, h1, h2⟩ := h.at_ i j hi' hj'
    refine ⟨y, ?_, fun d => ?_⟩
    · rw [Array.getElem?_setIfInBounds_ne (by omega)]; exact h1
    · rcases hd i j hi' hj' d with d | d
      · exact h2 d
      · exact absurd d e
theorem tab_row0 : ∀ k : Fin 33, tabG 0 k.val = if k.val = 0 then 1 else 0 := by decide +kernel
def DO (n i j : Nat) : Prop := i < n ∨ (i = 0 ∧ j < 33) ∨ j = 33
def DV (n k i j : Nat) : Prop := DO n i j ∨ (i = n ∧ j < k)
def DS (n k i j : Nat) : Prop := DO n i j ∨ (i = n ∧ j < 34 + k)
theorem tab_first (cs : Array Value) (hs : cs.size = 1139) (h : ∀ i, i < 1139 → cs[i]? = some (.int .u64 0)) : TabSt (cs.setIfInBounds 0 (.int .u64 1)) (DO 0) := by
  refine ⟨by simp [hs], fun i j hi hj => ?_⟩
  by_cases e : i * 67 + j = 0
  · have e1 : i = 0 := by omega
    have e2 : j = 0 := by omega
    subst e1 e2
    exact ⟨1, Array.getElem?_setIfInBounds_self_of_lt (by rw [hs]; omega), fun _ => rfl⟩
  · refine ⟨0, by rw [Array.getElem?_setIfInBounds_ne (by omega)]; exact h _ (by omega), fun d => ?_⟩
    unfold DO at d
    rcases d with d | ⟨rfl, d⟩ | rfl
    · omega
    · have := tab_row0 ⟨j, d⟩
      simp only at this
      rw [this, if_neg (by omega)]
      rfl
    · simp [tabG, sm]
theorem tab_next (n k : Nat) (hn : n < 17) (hk : k < 33) : IntKind.u64.wrap ((tabG n (33 + k) : Nat) + (v n k : Nat) : Int) = (tabG n (33 + (k + 1)) : Nat) := by
  have h := tabG_le ⟨n, hn⟩ ⟨33 + (k + 1), by omega⟩
  simp only [tabG, if_neg (show ¬33 + (k + 1) < 33 by omega), if_neg (show ¬33 + k < 33 by omega), show 33 + (k + 1) - 33 = k + 1 by omega, show 33 + k - 33 = k by omega] at *
  simp only [sm] at *
  rw [IntKind.wrap_u64]
  omega
/-- A table lies at block b. -/
def TableOK (b : Nat) (w : World) : Prop := ∃ cs, w.heap[b]? = some (.cells cs 192 (0, 0)) ∧ TabSt cs (DO 17)
theorem TableOK.below {b B : Nat} {w w' : World} (h : TableOK b w) (hb : b < B) (hw : Below B w w') : TableOK b w' := by
  obtain ⟨cs, h1, h2⟩ := h
  exact ⟨cs, (hw.block b hb).trans h1, h2⟩
theorem tab_rec (n k : Nat) (hn0 : 1 ≤ n) (hn : n < 17) (hk0 : 1 ≤ k) (hk : k < 33) : IntKind.u64.wrap (IntKind.u64.wrap ((tabG (n - 1) k : Nat) + (tabG n (k - 1) : Nat) : Int) + (tabG (n - 1) (k - 1) : Nat)) = (tabG n k : Nat) := by
  have h := v_rec ⟨n - 1, by omega⟩ ⟨k - 1, by omega⟩
  have h1 := v_le ⟨n, hn⟩ ⟨k, hk⟩
  simp only [show n - 1 + 1 = n by omega, show k - 1 + 1 = k by omega] at h h1
  simp only [tabG, if_pos hk, if_pos (show k - 1 < 33 by omega)]
  rw [IntKind.wrap_u64, IntKind.wrap_u64]
  omega
theorem tab_one (n : Nat) (hn : n < 17) : tabG n 0 = 1 := by
  have := v_zero ⟨n, hn⟩
  simpa [tabG] using this
set_option maxRecDepth 100000 in
theorem tabNew (w : World) : Calls Tryd.prog 73 #[] w fun e w' => ∃ b, e = .returned (.pointer (some ⟨b, 0, none⟩)) ∧ w.heap.size ≤ b ∧ TableOK b w' ∧ Below w.heap.size w w' := by
  obtain ⟨cs, hz, hsz, hfz⟩ := tab_zero
  have hS := Lib.hid (tab_first cs hsz hfz)
  have h0 := hfz 0 (by omega)
  clear hfz
  go_enter Tryd.func73, Tryd.ntmps73
  go_wp2
  clear h0 hz hsz
  go_loopw [16] (fun cnt wr => ∃ n : Nat, n ≤ 17 ∧ cnt = .int .i64 n ∧ ∃ cs x, TabSt cs (DO n) ∧ wr = (w.alloc (.cells cs 192)).grew x) (fun cnt _ => 17 - (intOf cnt).toNat)
  case atStart => exact ⟨0, by omega, rfl, _, _, hS.out, (World.grew_none _).symm⟩
  case round =>
    obtain ⟨n, hn, rfl, cs2, x2, hT, rfl⟩ := hrel
    by_cases hlt : n < 17
    · have hlt' : (n : Int) < 17 := by omega
      have hsz := hT.size
      by_cases hn0 : (0 : Int) < n
      · have hn0' : ¬(n : Int) ≤ 0 := by omega
        have hn1 : (0 : Int) ≤ (n : Int) - 1 := by omega
        have hn2 : ((n : Int) - 1) < 17 := by omega
        obtain ⟨y0, f0, _⟩ := hT.at_ n 0 (by omega) (by omega)
        have hsz := hT.size
        rw [Nat.add_zero] at f0
        go_wp2_with fail
        go_loopw [5] (fun cnt wr => ∃ k : Nat, 1 ≤ k ∧ k ≤ 33 ∧ cnt = .int .i64 k ∧ ∃ cs x, TabSt cs (DV n k) ∧ wr = (w.alloc (.cells cs 192)).grew x) (fun cnt _ => 33 - (intOf cnt).toNat)
        case atStart => exact ⟨1, by omega, by omega, rfl, _, _, hT.set n 0 (by omega) (by omega) _ (by rw [tab_one n (by omega)]; rfl) _ (by omega) fun i j hi hj d => by
            unfold DV DO at *
            omega, rfl⟩
        case round =>
          obtain ⟨k, hk1, hk, rfl, csv, xv, hTv, rfl⟩ := hrel
          by_cases hkl : k < 33
          · have hkl' : (k : Int) < 33 := by omega
            have hsv := hTv.size
            have hk0 : (0 : Int) ≤ (k : Int) - 1 := by omega
            have hk33 : (k : Int) - 1 < 33 := by omega
            have u1 := hTv.done (n - 1) k (by omega) (by omega) (by unfold DV DO; omega)
            have u2 := hTv.done n (k - 1) (by omega) (by omega) (by unfold DV DO; omega)
            have u3 := hTv.done (n - 1) (k - 1) (by omega) (by omega) (by unfold DV DO; omega)
            obtain ⟨y, c2, _⟩ := hTv.at_ n k (by omega) (by omega)
            have E := Lib.hid (tab_rec n k (by omega) hlt hk1 hkl)
            go_wp2_with fail
            first | refine wp_region_grew2 27 (by kernel_rfl) (by kernel_rfl) ?_ | refine wp_region_grew 27 (by kernel_rfl) (by kernel_rfl) ?_
            simp only [List.take_succ_cons, List.take_zero, List.drop_succ_cons, List.drop_zero]
            repeat (go_big_quiet_step (fail))
            refine wpQuiet_nil ?_
            rintro _ ⟨x, rfl⟩
            go_wp2
            go_roundw
            case rel => exact ⟨k + 1, by omega, by omega, by go_num, _, _, hTv.set n k (by omega) (by omega) _ E.out _ (by omega) fun i j hi hj d => by
              unfold DV DO at *
              omega, rfl⟩
            case measure => simp [intOf]; omega
          · have hkl' : ¬(k : Int) < 33 := by omega
            have hT2 : TabSt csv (DV n 33) := hTv.imp fun i j hi hj d => by
              unfold DV DO at *
              omega
            have hsv := hTv.size
            obtain ⟨row, hrow⟩ : ∃ row : List Value, row = (List.range 33).map fun k => Value.int .u64 (v n k : Nat) := ⟨_, rfl⟩
            have hrl : row.length = 33 := by rw [hrow]; simp
            have hra : ∀ k, k < 33 → row[k]? = some (.int .u64 (v n k : Nat)) := fun k hk => by rw [hrow]; simp [hk]
            have hrg : ((w.alloc (.cells csv 192)).grew xv).rangeAt w.heap.size (n * 67) row := by
              intro j y hy
              have hj : j < 33 := by
                have := (List.getElem?_eq_some_iff.1 hy).1
                omega
              have h1 := hT2.done n j (by omega) (by omega) (.inr ⟨rfl, hj⟩)
              rw [hra j hj] at hy
              rw [← Option.some.inj hy]
              simp only [tabG, if_pos hj] at h1
              simp [go_sem, h1]
            have HR := Lib.hid hra
            have HG := Lib.hid hrg
            have hrl0 := hrl
            have hrs : row.toArray.size = 33 := by simpa using hrl
            clear hrow hra hrg hrl
            go_wp2_with (refine wpList_load_mid rfl 186 _ rfl w.heap.size (n * 67) rfl row _ HG.out Tryd.underlying186 rfl (by rw [hrl0]; kernel_rfl) ?_)
            go_loopw [71] (fun cnt wr => ∃ k : Nat, k ≤ 33 ∧ cnt = .int .i64 k ∧ ∃ cs x, TabSt cs (DS n k) ∧ wr = (w.alloc (.cells cs 192)).grew x) (fun cnt _ => 33 - (intOf cnt).toNat)
            case atStart => exact ⟨0, by omega, rfl, _, _, hT2.imp fun i j hi hj d => by
                unfold DS DO DV at *
                unfold DO at *
                omega, rfl⟩
            case round =>
              obtain ⟨k, hk, rfl, cs3, x3, hT3, rfl⟩ := hrel
              by_cases hkl : k < 33
              · have hkl' : (k : Int) < 33 := by omega
                have hsz3 := hT3.size
                have hrk := HR.out k hkl
                have hix := run_index_one (P := Tryd.prog) 186 33 33 row.toArray k _ _ Tryd.underlying186 Tryd.underlying33 (by refine ⟨fun _ h => ?_, fun _ _ h => ?_⟩ <;> cases h) (by kernel_rfl) hkl (by rw [List.getElem?_toArray]; exact hrk)
                have c1 := hT3.done n (33 + k) (by omega) (by omega) (by unfold DS; omega)
                obtain ⟨y, c2, _⟩ := hT3.at_ n (33 + (k + 1)) (by omega) (by omega)
                have E := Lib.hid (tab_next n k (by omega) hkl)
                rw [← Nat.add_assoc] at c1 c2
                go_wp2_with fail
                first | refine wp_region_grew2 14 (by kernel_rfl) (by kernel_rfl) ?_ | refine wp_region_grew 14 (by kernel_rfl) (by kernel_rfl) ?_
                simp only [List.take_succ_cons, List.take_zero, List.drop_succ_cons, List.drop_zero]
                repeat (go_big_quiet_step (fail))
                refine wpQuiet_nil ?_
                rintro _ ⟨x, rfl⟩
                go_wp2
                go_roundw
                case rel => exact ⟨k + 1, by omega, by go_num, _, _, hT3.set n (33 + (k + 1)) (by omega) (by omega) _ E.out _ (by omega) fun i j hi hj d => by
                  unfold DS DO at *
                  omega, rfl⟩
                case measure => simp [intOf]; omega
              · have hkl' : ¬(k : Int) < 33 := by omega
                go_wp2
                go_roundw
                case rel => exact ⟨n + 1, by omega, by go_num, _, _, hT3.imp fun i j hi hj d => by
                  unfold DS
                  unfold DO at *
                  omega, rfl⟩
                case measure => simp [intOf]; omega
      · have hT2 : TabSt cs2 (DV n 33) := hT.imp fun i j hi hj d => by
          unfold DV at d
          unfold DO at *
          omega
        obtain ⟨row, hrow⟩ : ∃ row : List Value, row = (List.range 33).map fun k => Value.int .u64 (v n k : Nat) := ⟨_, rfl⟩
        have hrl : row.length = 33 := by rw [hrow]; simp
        have hra : ∀ k, k < 33 → row[k]? = some (.int .u64 (v n k : Nat)) := fun k hk => by rw [hrow]; simp [hk]
        have hrg : ((w.alloc (.cells cs2 192)).grew x2).rangeAt w.heap.size (n * 67) row := by
          intro j y hy
          have hj : j < 33 := by
            have := (List.getElem?_eq_some_iff.1 hy).1
            omega
          have h1 := hT2.done n j (by omega) (by omega) (.inr ⟨rfl, hj⟩)
          rw [hra j hj] at hy
          rw [← Option.some.inj hy]
          simp only [tabG, if_pos hj] at h1
          simp [go_sem, h1]
        have HR := Lib.hid hra
        have HG := Lib.hid hrg
        have hrl0 := hrl
        have hrs : row.toArray.size = 33 := by simpa using hrl
        clear hrow hra hrg hrl
        go_wp2_with (refine wpList_load_mid rfl 186 _ rfl w.heap.size (n * 67) rfl row _ HG.out Tryd.underlying186 rfl (by rw [hrl0]; kernel_rfl) ?_)
        go_loopw [71] (fun cnt wr => ∃ k : Nat, k ≤ 33 ∧ cnt = .int .i64 k ∧ ∃ cs x, TabSt cs (DS n k) ∧ wr = (w.alloc (.cells cs 192)).grew x) (fun cnt _ => 33 - (intOf cnt).toNat)
        case atStart => exact ⟨0, by omega, rfl, _, _, hT2.imp fun i j hi hj d => by
            unfold DS DO DV at *
            unfold DO at *
            omega, rfl⟩
        case round =>
          obtain ⟨k, hk, rfl, cs3, x3, hT3, rfl⟩ := hrel
          by_cases hkl : k < 33
          · have hkl' : (k : Int) < 33 := by omega
            have hsz3 := hT3.size
            have hrk := HR.out k hkl
            have hix := run_index_one (P := Tryd.prog) 186 33 33 row.toArray k _ _ Tryd.underlying186 Tryd.underlying33 (by refine ⟨fun _ h => ?_, fun _ _ h => ?_⟩ <;> cases h) (by kernel_rfl) hkl (by rw [List.getElem?_toArray]; exact hrk)
            have c1 := hT3.done n (33 + k) (by omega) (by omega) (by unfold DS; omega)
            obtain ⟨y, c2, _⟩ := hT3.at_ n (33 + (k + 1)) (by omega) (by omega)
            have E := Lib.hid (tab_next n k (by omega) hkl)
            rw [← Nat.add_assoc] at c1 c2
            go_wp2_with fail
            first | refine wp_region_grew2 14 (by kernel_rfl) (by kernel_rfl) ?_ | refine wp_region_grew 14 (by kernel_rfl) (by kernel_rfl) ?_
            simp only [List.take_succ_cons, List.take_zero, List.drop_succ_cons, List.drop_zero]
            repeat (go_big_quiet_step (fail))
            refine wpQuiet_nil ?_
            rintro _ ⟨x, rfl⟩
            go_wp2
            go_roundw
            case rel => exact ⟨k + 1, by omega, by go_num, _, _, hT3.set n (33 + (k + 1)) (by omega) (by omega) _ E.out _ (by omega) fun i j hi hj d => by
              unfold DS DO at *
              omega, rfl⟩
            case measure => simp [intOf]; omega
          · have hkl' : ¬(k : Int) < 33 := by omega
            go_wp2
            go_roundw
            case rel => exact ⟨n + 1, by omega, by go_num, _, _, hT3.imp fun i j hi hj d => by
              unfold DS
              unfold DO at *
              omega, rfl⟩
            case measure => simp [intOf]; omega
    · have hlt' : ¬(n : Int) < 17 := by omega
      go_wp2
      go_ret
      obtain rfl : n = 17 := by omega
      refine ⟨w.heap.size, rfl, Nat.le_refl _, ⟨cs2, ?_, hT⟩, by (repeat' (first | (with_reducible exact Below.refl _ _) | (with_reducible assumption) | (with_reducible refine Below.alloc ?_ ?_ _) | (with_reducible refine below_grew ?_ ?_ _) | (with_reducible refine Below.setCell ?_ ?_ _) | (with_reducible refine Below.drew ?_) | (with_reducible refine below_drewN ?_ _) | omega | (simp; done) | (simp; omega)))⟩
      rw [World.grew_block _ _ _ (by simp)]
      exact heap_alloc_new w _
end Go.Proofs.YtcibajleknhklaaDoor
end

section
namespace Go.Proofs.YtcibajleknhklaaDoor
open Go.RowKit Go.BigFrame Go.Vec
set_option linter.unusedSimpArgs false
theorem tabV_in (b : Nat) (w : World) (hT : TableOK b w) (n k : Nat) (hn : n < 17) (hk : k < 33) : Calls Tryd.prog 112 #[.pointer (some ⟨b, 0, none⟩), .int .i64 n, .int .i64 k] w fun e w' => e = .returned (.int .u64 (vF n k)) ∧ w = w' := by
  obtain ⟨cs, hc, hS⟩ := hT
  have h1 := hS.done n k hn (by omega) (by unfold DO; omega)
  have h2 : w.cell? ⟨b, n * 67 + k, none⟩ = some (.int .u64 (tabG n k : Nat)) := by simp [World.cell?, hc, h1]
  have E := Lib.hid (show ((tabG n k : Nat) : Int) = vF n k from by unfold tabG vF; rw [if_pos hk, if_pos (by omega)]; simp)
  have i1 : ¬(n : Int) < 0 := by omega
  have i2 : (n : Int) ≤ 16 := by omega
  have i3 : ¬(k : Int) < 0 := by omega
  have i4 : (k : Int) ≤ 32 := by omega
  clear h1 hc hS
  go_enter Tryd.func112, Tryd.ntmps112
  go_wp2
  go_ret
  exact ⟨ret_int E.out, rfl⟩
theorem tabV (b : Nat) (w : World) (hT : TableOK b w) (n k : Int) : Calls Tryd.prog 112 #[.pointer (some ⟨b, 0, none⟩), .int .i64 n, .int .i64 k] w fun e w' => e = .returned (.int .u64 (vF n k)) ∧ w = w' := by
  by_cases h1 : 0 ≤ n
  · by_cases h2 : n ≤ 16
    · by_cases h3 : 0 ≤ k
      · by_cases h4 : k ≤ 32
        · obtain ⟨N, rfl⟩ := Int.eq_ofNat_of_zero_le h1
          obtain ⟨K, rfl⟩ := Int.eq_ofNat_of_zero_le h3
          exact tabV_in b w hT N K (by omega) (by omega)
        · have E := Lib.hid (vF_out n k (by omega))
          go_enter Tryd.func112, Tryd.ntmps112
          go_wp2
          go_ret
          exact ⟨ret_int E.out.symm, rfl⟩
      · have E := Lib.hid (vF_out n k (by omega))
        go_enter Tryd.func112, Tryd.ntmps112
        go_wp2
        go_ret
        exact ⟨ret_int E.out.symm, rfl⟩
    · have E := Lib.hid (vF_out n k (by omega))
      go_enter Tryd.func112, Tryd.ntmps112
      go_wp2
      go_ret
      exact ⟨ret_int E.out.symm, rfl⟩
  · have E := Lib.hid (vF_out n k (by omega))
    go_enter Tryd.func112, Tryd.ntmps112
    go_wp2
    go_ret
    exact ⟨ret_int E.out.symm, rfl⟩
end Go.Proofs.YtcibajleknhklaaDoor
end

section
namespace Go.Cost
open Go.Vec
def capS (n : Nat) : Nat := ((List.range 32).takeWhile fun k => decide (v n (k + 1) ≤ 1048576)).length
def cap (n : Nat) : Nat := if n ≤ 8 then capS n else min (capS (n / 2)) (capS (n - n / 2))
def bitsS (n k : Nat) : Nat := if k = 0 then 0 else Lib.bitLen (v n k - 1) + 1
def mx (n k : Nat) : Nat → Nat
  | 0 => 0
  | a + 1 => max (mx n k a) (bitsS (n / 2) a + bitsS (n - n / 2) (k - a))
def pays (n k : Nat) : Nat := if k = 0 then 0 else if n ≤ 8 then bitsS n k else Lib.bitLen k + 1 + mx n k (k + 1)
theorem cap_le : ∀ n : Fin 17, cap n.val ≤ 32 := by decide +kernel
theorem pays_le : ∀ n : Fin 17, ∀ k : Fin 33, pays n.val k.val ≤ 200 := by decide +kernel
theorem bitsS_le : ∀ n : Fin 17, ∀ k : Fin 33, bitsS n.val k.val ≤ 100 := by decide +kernel
theorem v_pos : ∀ n : Fin 16, ∀ k : Fin 32, 2 ≤ v (n.val + 1) (k.val + 1) := by decide +kernel
theorem mx_le (n k : Nat) (hn : n ≤ 16) (hk : k ≤ 32) : ∀ a, a ≤ k + 1 → mx n k a ≤ 200
  | 0, _ => by simp [mx]
  | a + 1, h => by
    have h1 := mx_le n k hn hk a (by omega)
    have h2 := bitsS_le ⟨n / 2, by omega⟩ ⟨a, by omega⟩
    have h3 := bitsS_le ⟨n - n / 2, by omega⟩ ⟨k - a, by omega⟩
    simp only at h2 h3
    simp only [mx]
    omega
/-- The greatest number of pulses: -1 outside. -/
def capF (n : Int) : Int := if 1 ≤ n ∧ n ≤ 16 then (cap n.toNat : Nat) else -1
/-- What pulses cost: -1 outside. -/
def bitsF (n k : Int) : Int := if 0 ≤ k ∧ k ≤ capF n then (pays n.toNat k.toNat : Nat) else -1
theorem capF_in (n : Int) (h : 1 ≤ n ∧ n ≤ 16) : capF n = (cap n.toNat : Nat) := by unfold capF; rw [if_pos h]
theorem capF_out (n : Int) (h : ¬(1 ≤ n ∧ n ≤ 16)) : capF n = -1 := by unfold capF; rw [if_neg h]
theorem capF_bd (n : Int) : -1 ≤ capF n ∧ capF n ≤ 32 := by
  unfold capF
  split
  · rename_i h
    have := cap_le ⟨n.toNat, by omega⟩
    simp only at this
    omega
  · omega
theorem capF_pos (n k : Int) (h0 : 0 ≤ k) (h : k ≤ capF n) : 1 ≤ n ∧ n ≤ 16 ∧ k ≤ 32 := by
  have hb := capF_bd n
  unfold capF at h
  split at h
  · rename_i h1
    have := cap_le ⟨n.toNat, by omega⟩
    simp only at this
    exact ⟨h1.1, h1.2, by omega⟩
  · omega
theorem pays_small (n k : Int) (hn : 1 ≤ n ∧ n ≤ 8) (hk : 1 ≤ k ∧ k ≤ 32) : (pays n.toNat k.toNat : Nat) = (Lib.bitLen (IntKind.u64.wrap (vF n k - 1)).toNat : Nat) + 1 := by
  unfold pays bitsS vF
  have := v_pos ⟨(n - 1).toNat, by omega⟩ ⟨(k - 1).toNat, by omega⟩
  have hle := v_le ⟨n.toNat, by omega⟩ ⟨k.toNat, by omega⟩
  simp only at this hle
  rw [show (n - 1).toNat + 1 = n.toNat by omega, show (k - 1).toNat + 1 = k.toNat by omega] at this
  rw [if_neg (by omega), if_pos (by omega), if_neg (by omega), if_pos (by omega), IntKind.wrap_u64]
  congr 2
  omega
theorem pays_zero (n : Nat) : pays n 0 = 0 := rfl
theorem pays_eqS (n k : Nat) (hn : n ≤ 8) : pays n k = bitsS n k := by
  unfold pays bitsS
  by_cases h : k = 0
  · rw [if_pos h, if_pos h]
  · rw [if_neg h, if_neg h, if_pos hn]
theorem mx_step (n k : Int) (a : Nat) (hn : 9 ≤ n ∧ n ≤ 16) (ha : a ≤ k.toNat) (h0 : 0 ≤ k) :
    mx n.toNat k.toNat (a + 1) = max (mx n.toNat k.toNat a) (pays (n / 2).toNat a + pays (n - n / 2).toNat (k - a).toNat) := by
  rw [pays_eqS _ _ (by omega), pays_eqS _ _ (by omega)]
  simp only [mx]
  rw [show (n / 2).toNat = n.toNat / 2 by omega, show (n - n / 2).toNat = n.toNat - n.toNat / 2 by omega, show (k - a).toNat = k.toNat - a by omega]
theorem pays_wide (n k : Int) (hn : 9 ≤ n ∧ n ≤ 16) (hk : 1 ≤ k ∧ k ≤ 32) : (pays n.toNat k.toNat : Nat) = ((Lib.bitLen k.toNat : Nat) : Int) + 1 + ((mx n.toNat k.toNat (k.toNat + 1) : Nat) : Int) := by
  unfold pays
  rw [if_neg (by omega), if_neg (by omega)]
  omega
end Go.Cost
end

section
set_option linter.unusedSimpArgs false
namespace Go.Proofs.YtcibajleknhklaaDoor
open Go.RowKit Go.BigFrame
theorem len_run (x : Int) (w : World) (h0 : 0 ≤ x) (h1 : x ≤ 18446744073709551615) :
    Calls Tryd.prog 63 #[.int .u64 x] w fun e w' => e = .returned (.int .i64 (Lib.bitLen x.toNat)) ∧ w = w' := (Tryd.bits_Len x w h0 h1).mono fun _ _ ⟨a, b⟩ => ⟨a, b.symm⟩
theorem len64_run (x : Int) (w : World) (h0 : 0 ≤ x) (h1 : x ≤ 18446744073709551615) :
    Calls Tryd.prog 101 #[.int .u64 x] w fun e w' => e = .returned (.int .i64 (Lib.bitLen x.toNat)) ∧ w = w' := (Tryd.bits_Len64 x w h0 h1).mono fun _ _ ⟨a, b⟩ => ⟨a, b.symm⟩
end Go.Proofs.YtcibajleknhklaaDoor
end

section
namespace Go.Proofs.YtcibajleknhklaaDoor
open Go.RowKit Go.BigFrame Go.Vec Go.Cost
set_option linter.unusedSimpArgs false
theorem work_small (s t : Nat) (w : World) (hT : TableOK t w) (n k : Int) (hn : 1 ≤ n ∧ n ≤ 8) (hk : 1 ≤ k ∧ k ≤ 32) :
    Calls Tryd.prog 113 #[.pointer (some ⟨s, 0, none⟩), .pointer (some ⟨t, 0, none⟩), .int .i64 n, .int .i64 k] w fun e w' => e = .returned (.int .i64 ((pays n.toNat k.toNat : Nat) : Int)) ∧ w = w' := by
  have HV := Lib.hid (tabV t w hT n k)
  have E := Lib.hid (pays_small n k hn hk)
  have hl := Lib.hid (fun w => len64_run (IntKind.u64.wrap (vF n k - 1)) w (by rw [IntKind.wrap_u64]; omega) (by rw [IntKind.wrap_u64]; omega))
  have hbd : (Lib.bitLen (IntKind.u64.wrap (vF n k - 1)).toNat : Int) ≤ 200 := by
    have := pays_le ⟨n.toNat, by omega⟩ ⟨k.toNat, by omega⟩
    have e := E.out
    simp only at this
    omega
  obtain ⟨n1, n2⟩ := hn
  obtain ⟨k1, k2⟩ := hk
  clear hT
  go_enter Tryd.func113, Tryd.ntmps113
  go_wp2_with (first | (go_at_call 112; refine HV.out.mono ?_; rintro e w' ⟨rfl, rfl⟩) | (go_at_call 101; refine (hl.out _).mono ?_; rintro e w' ⟨rfl, rfl⟩))
  go_ret
  exact ⟨ret_int (by rw [E.out]; omega), rfl⟩
theorem pays_100 (n k : Nat) (hn : n ≤ 16) (hk : k ≤ 32) : pays n k ≤ 200 := by
  have := pays_le ⟨n, by omega⟩ ⟨k, by omega⟩
  simpa using this
theorem work_wide (s t : Nat) (w : World) (n k : Nat) (hn : 9 ≤ n ∧ n ≤ 16) (hk : 1 ≤ k ∧ k ≤ 32) (hb : s < w.heap.size)
    (hS : ∀ i j, (i = n / 2 ∨ i = n - n / 2) → j ≤ k → w.cell? ⟨s, 17 + i * 33 + j, none⟩ = some (.int .i64 (pays i j : Nat))) :
    Calls Tryd.prog 113 #[.pointer (some ⟨s, 0, none⟩), .pointer (some ⟨t, 0, none⟩), .int .i64 n, .int .i64 k] w fun e w' => e = .returned (.int .i64 ((pays n k : Nat) : Int)) ∧ Below w.heap.size w w' := by
  have hl := Lib.hid (fun w => len_run (k : Int) w (by omega) (by omega))
  have hM := Lib.hid (fun (a : Nat) ha => mx_step n k a (by omega) ha (by omega))
  have hMb := Lib.hid (mx_le n k (by omega) (by omega))
  have E := Lib.hid (pays_wide n k (by omega) (by omega))
  have HS := Lib.hid hS
  have hlb : (Lib.bitLen k : Int) ≤ 200 := by
    have := pays_100 n k (by omega) (by omega)
    have e := E.out
    simp only [Int.toNat_natCast] at e
    omega
  have hM0 : mx n k 0 = 0 := rfl
  simp only [Int.toNat_natCast] at hM E
  generalize mx n k = M at *
  obtain ⟨n1, n2⟩ := hn
  obtain ⟨k1, k2⟩ := hk
  have n1' : ¬(n : Int) ≤ 8 := by omega
  clear hS
  go_enter Tryd.func113, Tryd.ntmps113
  go_wp2
  go_loopw [9, 22] (fun most cnt wr => ∃ a : Nat, a ≤ k + 1 ∧ cnt = .int .i64 a ∧ most = .int .i64 (M a : Nat) ∧ ∃ x, wr = w.grew x) (fun _ cnt _ => k + 1 - (intOf cnt).toNat)
  case atStart => exact ⟨0, by omega, rfl, by rw [hM0]; rfl, World.as_grew _⟩
  case round =>
    obtain ⟨a, ha, rfl, rfl, x, rfl⟩ := hrel
    by_cases hlt : a < k + 1
    · have hlt' : (a : Int) < (k : Int) + 1 := by omega
      have m1 := hMb.out a (by omega)
      have c1 := HS.out (n / 2) a (.inl rfl) (by omega)
      have c2 := HS.out (n - n / 2) (k - a) (.inr rfl) (by omega)
      have p1 := pays_100 (n / 2) a (by omega) (by omega)
      have p2 := pays_100 (n - n / 2) (k - a) (by omega) (by omega)
      have e : M (a + 1) = max (M a) (pays (n / 2) a + pays (n - n / 2) (k - a)) := by
        have e := hM.out a (by omega)
        rw [show ((n : Int) / 2).toNat = n / 2 by omega, show ((n : Int) - (n : Int) / 2).toNat = n - n / 2 by omega, show ((k : Int) - (a : Int)).toNat = k - a by omega] at e
        exact e
      go_wp2_with fail
      first | refine wp_region_grew_all2 (by kernel_rfl) (by kernel_rfl) ?_ | refine wp_region_grew_all (by kernel_rfl) (by kernel_rfl) ?_
      repeat (go_big_quiet_step (fail))
      refine wpQuiet_nil ?_
      rintro _ ⟨x, rfl⟩
      go_wp2
      go_roundw
      case rel => exact ⟨a + 1, by omega, by go_num, by rw [e]; congr 1; omega, _, rfl⟩
      case measure => simp [intOf]; omega
    · have hlt' : ¬(a : Int) < (k : Int) + 1 := by omega
      have m1 := hMb.out a (by omega)
      go_wp2_with (go_at_call 63; refine (hl.out _).mono ?_; rintro e w' ⟨rfl, rfl⟩)
      go_ret
      have hak : a = k + 1 := by omega
      exact ⟨ret_int (by rw [E.out, hak]), by (repeat' (first | (with_reducible exact Below.refl _ _) | (with_reducible assumption) | (with_reducible refine Below.alloc ?_ ?_ _) | (with_reducible refine below_grew ?_ ?_ _) | (with_reducible refine Below.setCell ?_ ?_ _) | (with_reducible refine Below.drew ?_) | (with_reducible refine below_drewN ?_ _) | omega | (simp; done) | (simp; omega)))⟩
theorem work_any (s t : Nat) (w : World) (hT : TableOK t w) (n k : Nat) (hn : 1 ≤ n ∧ n ≤ 16) (hk : 1 ≤ k ∧ k ≤ 32) (hb : s < w.heap.size)
    (hS : 9 ≤ n → ∀ i j, (i = n / 2 ∨ i = n - n / 2) → j ≤ k → w.cell? ⟨s, 17 + i * 33 + j, none⟩ = some (.int .i64 (pays i j : Nat))) :
    Calls Tryd.prog 113 #[.pointer (some ⟨s, 0, none⟩), .pointer (some ⟨t, 0, none⟩), .int .i64 n, .int .i64 k] w fun e w' => e = .returned (.int .i64 ((pays n k : Nat) : Int)) ∧ Below w.heap.size w w' := by
  by_cases h : n ≤ 8
  · refine (work_small s t w hT n k (by omega) (by omega)).mono fun e w' ⟨h1, h2⟩ => ⟨by simpa using h1, by subst h2; exact Below.refl _ _⟩
  · exact work_wide s t w n k (by omega) hk hb (hS (by omega))
end Go.Proofs.YtcibajleknhklaaDoor
end

section
namespace Go.Proofs.YtcibajleknhklaaDoor
open Go.RowKit Go.BigFrame Go.Vec Go.Cost
set_option linter.unusedSimpArgs false
def capG (i : Nat) : Int := if i = 0 then -1 else (cap i : Nat)
structure ShSt (cs : Array Value) (C : Nat → Prop) (B : Nat → Nat → Prop) : Prop where
  size : cs.size = 578
  caps : ∀ i, i < 17 → ∃ y : Int, cs[i]? = some (.int .i64 y) ∧ (C i → y = capG i)
  bits : ∀ i j, i < 17 → j < 33 → ∃ y : Int, cs[17 + i * 33 + j]? = some (.int .i64 y) ∧ (B i j → y = (pays i j : Nat))
section
variable {cs : Array Value} {C C' : Nat → Prop} {B B' : Nat → Nat → Prop}
theorem ShSt.cap_done (h : ShSt cs C B) (i : Nat) (hi : i < 17) (hd : C i) : cs[i]? = some (.int .i64 (capG i)) := by
  obtain ⟨y, h1, h2⟩ := h.caps i hi
  rw [h1, h2 hd]
theorem ShSt.bits_done (h : ShSt cs C B) (i j : Nat) (hi : i < 17) (hj : j < 33) (hd : B i j) : cs[17 + i * 33 + j]? = some (.int .i64 (pays i j : Nat)) := by
  obtain ⟨y, h1, h2⟩ := h.bits i j hi hj
  rw [h1, h2 hd]
theorem ShSt.imp (h : ShSt cs C B) (hc : ∀ i, i < 17 → C' i → C i) (hb : ∀ i j, i < 17 → j < 33 → B' i j → B i j) : ShSt cs C' B' :=
  ⟨h.size, fun i hi => by
    obtain ⟨y, h1, h2⟩ := h.caps i hi
    exact ⟨y, h1, fun d => h2 (hc i hi d)⟩, fun i j hi hj => by
    obtain ⟨y, h1, h2⟩ := h.bits i j hi hj
    exact ⟨y, h1, fun d => h2 (hb i j hi hj d)⟩⟩
theorem ShSt.learn (h : ShSt cs C B) (i0 : Nat) (hv : cs[i0]? = some (.int .i64 (capG i0))) (hc : ∀ i, C' i → C i ∨ i = i0) : ShSt cs C' B :=
  ⟨h.size, fun i hi => by
    by_cases e : i = i0
    · subst e; exact ⟨_, hv, fun _ => rfl⟩
    · obtain ⟨y, h1, h2⟩ := h.caps i hi
      exact ⟨y, h1, fun d => h2 ((hc i d).resolve_right e)⟩, h.bits⟩
/-- A cap is set: to whatever ('C'' leaves it out) or to what it shall be. -/
theorem ShSt.set_cap (h : ShSt cs C B) (i0 : Nat) (hi : i0 < 17) (x : Int) (hx : C' i0 → x = capG i0) (hc : ∀ i, i < 17 → i ≠ i0 → C' i → C i) (hb : ∀ i j, i < 17 → j < 33 → B' i j → B i j) : ShSt (cs.setIfInBounds i0 (.int .i64 x)) C' B' := by
  refine ⟨by simp [h.size], fun i hi' => ?_, fun i j hi' hj' => ?_⟩
  · by_cases e : i = i0
    · subst e
      exact ⟨x, Array.getElem?_setIfInBounds_self_of_lt (by rw [h.size]; omega), hx⟩
    · obtain ⟨y, h1, h2⟩ := h.caps i hi'
      exact ⟨y, by rw [Array.getElem?_setIfInBounds_ne (by omega)]; exact h1, fun d => h2 (hc i hi' e d)⟩
  · obtain ⟨y, h1, h2⟩ := h.bits i j hi' hj'
    exact ⟨y, by rw [Array.getElem?_setIfInBounds_ne (by omega)]; exact h1, fun d => h2 (hb i j hi' hj' d)⟩
theorem ShSt.set_bits (h : ShSt cs C B) (i0 j0 : Nat) (hi : i0 < 17) (hj : j0 < 33) (x : Int) (hx : x = (pays i0 j0 : Nat)) (o : Nat) (ho : o = 17 + i0 * 33 + j0)
    (hc : ∀ i, i < 17 → C' i → C i) (hb : ∀ i j, i < 17 → j < 33 → B' i j → B i j ∨ (i = i0 ∧ j = j0)) : ShSt (cs.setIfInBounds o (.int .i64 x)) C' B' := by
  subst ho hx
  refine ⟨by simp [h.size], fun i hi' => ?_, fun i j hi' hj' => ?_⟩
  · obtain ⟨y, h1, h2⟩ := h.caps i hi'
    exact ⟨y, by rw [Array.getElem?_setIfInBounds_ne (by omega)]; exact h1, fun d => h2 (hc i hi' d)⟩
  · by_cases e : i = i0 ∧ j = j0
    · obtain ⟨rfl, rfl⟩ := e
      exact ⟨_, Array.getElem?_setIfInBounds_self_of_lt (by rw [h.size]; omega), fun _ => rfl⟩
    · obtain ⟨y, h1, h2⟩ := h.bits i j hi' hj'
      refine ⟨y, by rw [Array.getElem?_setIfInBounds_ne (by omega)]; exact h1, fun d => ?_⟩
      rcases hb i j hi' hj' d with d | d
      · exact h2 d
      · exact absurd d e
end
def ShC (n i : Nat) : Prop := i < n
def ShB (n i j : Nat) : Prop := j = 0 ∨ (1 ≤ i ∧ i < n ∧ j ≤ cap i)
def ShBk (n k i j : Nat) : Prop := ShB n i j ∨ (i = n ∧ j < k)
theorem ShBk.one {n i j : Nat} (d : ShBk n 1 i j) : ShB n i j := by
  unfold ShBk at d
  rcases d with d | d
  · exact d
  · exact .inl (by omega)
theorem sheet_first (cs : Array Value) (hs : cs.size = 578) (h : ∀ i, i < 578 → cs[i]? = some (.int .i64 0)) : ShSt (cs.setIfInBounds 0 (.int .i64 (-1))) (ShC 1) (ShB 1) := by
  have h0 : ShSt cs (fun _ => False) (ShB 1) := ⟨hs, fun i hi => ⟨0, h i (by omega), fun d => d.elim⟩, fun i j hi hj => ⟨0, h _ (by omega), fun d => by
    unfold ShB at d
    obtain rfl : j = 0 := by omega
    rfl⟩⟩
  exact h0.set_cap 0 (by omega) _ (fun _ => rfl) (fun i hi hne d => by unfold ShC at d; omega) (fun _ _ _ _ d => d)
def shZ : Array Value := Array.replicate 578 (.int .i64 0)
theorem sheet_zero : ∃ cs, (∀ w, (zeroValue 160).run Tryd.prog w = .ok (.agg cs) w) ∧ cs.size = 578 ∧ ∀ i, i < 578 → cs[i]? = some (.int .i64 0) := by
  refine ⟨shZ, fun _ => by kernel_rfl, by unfold shZ; simp, fun i hi => ?_⟩
  unfold shZ
  simp [hi]
/-- A sheet lies at block b. -/
def SheetOK (b : Nat) (w : World) : Prop := ∃ cs, w.heap[b]? = some (.cells cs 160 (0, 0)) ∧ ShSt cs (ShC 17) (ShB 17)
theorem SheetOK.below {b B : Nat} {w w' : World} (h : SheetOK b w) (hb : b < B) (hw : Below B w w') : SheetOK b w' := by
  obtain ⟨cs, h1, h2⟩ := h
  exact ⟨cs, (hw.block b hb).trans h1, h2⟩
theorem cap_over : ∀ n : Fin 8, ∀ c : Fin 33, (1048576 < v (n.val + 1) c.val) ↔ cap (n.val + 1) < c.val := by decide +kernel
theorem cap_le32 (n : Nat) (hn : n < 17) : cap n ≤ 32 := cap_le ⟨n, hn⟩
theorem cap_half : ∀ n : Fin 8, cap (n.val + 9) = min (cap ((n.val + 9) / 2)) (cap (n.val + 9 - (n.val + 9) / 2)) := by decide +kernel
theorem vF_nat (n c : Nat) (hn : n < 17) (hc : c < 33) : vF n c = (v n c : Nat) := by
  unfold vF
  rw [if_pos (by omega)]
  simp
set_option maxRecDepth 100000 in
theorem sheetNew (t : Nat) (w : World) (hT : TableOK t w) (ht : t < w.heap.size) : Calls Tryd.prog 72 #[.pointer (some ⟨t, 0, none⟩)] w fun e w' => ∃ b, e = .returned (.pointer (some ⟨b, 0, none⟩)) ∧ w.heap.size ≤ b ∧ SheetOK b w' ∧ Below w.heap.size w w' := by
  obtain ⟨cs, hz, hsz, hfz⟩ := sheet_zero
  have hS := Lib.hid (sheet_first cs hsz hfz)
  have h0 := hfz 0 (by omega)
  have HT := Lib.hid hT
  clear hfz hT
  go_enter Tryd.func72, Tryd.ntmps72
  go_wp2
  clear h0 hz hsz
  go_loopw [4] (fun cnt wr => ∃ n : Nat, 1 ≤ n ∧ n ≤ 17 ∧ cnt = .int .i64 n ∧ ∃ cs x, ShSt cs (ShC n) (ShB n) ∧ wr = (w.alloc (.cells cs 160)).grew x) (fun cnt _ => 17 - (intOf cnt).toNat)
  case atStart => exact ⟨1, by omega, by omega, rfl, _, _, hS.out, (World.grew_none _).symm⟩
  case round =>
    obtain ⟨n, hn1, hn, rfl, cs2, x2, hT, rfl⟩ := hrel
    by_cases hlt : n < 17
    · have hlt' : (n : Int) ≤ 16 := by omega
      have hsz := hT.size
      by_cases hn8 : n ≤ 8
      · have hn8' : (n : Int) ≤ 8 := by omega
        obtain ⟨y0, f0, _⟩ := hT.caps n (by omega)
        have hn17 : (n : Int) < 17 := by omega
        go_wp2_with fail
        go_loopw [33] (fun _ wr => ∃ c : Nat, cap n ≤ c ∧ c ≤ 32 ∧ ∃ cs x, cs[n]? = some (.int .i64 c) ∧ ShSt cs (ShC n) (ShB n) ∧ wr = (w.alloc (.cells cs 160)).grew x) (fun _ wr => (intOf ((wr.cell? ⟨w.heap.size, n, none⟩).getD (.bool false))).toNat)
        case atStart => exact ⟨32, cap_le32 n (by omega), by omega, _, _, Array.getElem?_setIfInBounds_self_of_lt (by rw [hT.size]; omega), hT.set_cap n (by omega) _ (fun d => by unfold ShC at d; omega) (fun _ _ _ d => d) (fun _ _ _ _ d => d), rfl⟩
        case round =>
          obtain ⟨c, hc1, hc2, cs3, x3, f1, hT3, rfl⟩ := hrel
          have hsz3 := hT3.size
          have HV := Lib.hid (fun x => tabV t ((w.alloc (.cells cs3 160)).grew x) (HT.out.below ht (by (repeat' (first | (with_reducible exact Below.refl _ _) | (with_reducible assumption) | (with_reducible refine Below.alloc ?_ ?_ _) | (with_reducible refine below_grew ?_ ?_ _) | (with_reducible refine Below.setCell ?_ ?_ _) | (with_reducible refine Below.drew ?_) | (with_reducible refine below_drewN ?_ _) | omega | (simp; done) | (simp; omega))))) n c)
          have hov := cap_over ⟨n - 1, by omega⟩ ⟨c, by omega⟩
          simp only [show n - 1 + 1 = n by omega] at hov
          rw [vF_nat n c (by omega) (by omega)] at HV
          by_cases hlc : cap n < c
          · have hov' : (1048576 : Int) < (v n c : Nat) := by have := hov.2 hlc; omega
            clear hov
            go_wp2_with (go_at_call 112; refine (HV.out _).mono ?_; rintro e w' ⟨rfl, rfl⟩)
            first | refine wp_region_grew2 10 (by kernel_rfl) (by kernel_rfl) ?_ | refine wp_region_grew 10 (by kernel_rfl) (by kernel_rfl) ?_
            simp only [List.take_succ_cons, List.take_zero, List.drop_succ_cons, List.drop_zero]
            repeat (go_big_quiet_step (fail))
            refine wpQuiet_nil ?_
            rintro _ ⟨x, rfl⟩
            go_wp2
            go_roundw
            case rel => exact ⟨c - 1, by omega, by omega, cs3.setIfInBounds n (.int .i64 (c - 1 : Nat)), x, Array.getElem?_setIfInBounds_self_of_lt (by omega), hT3.set_cap n (by omega) _ (fun d => by unfold ShC at d; omega) (fun _ _ _ d => d) (fun _ _ _ _ d => d), by rw [show (c : Int) - 1 = ((c - 1 : Nat) : Int) by omega]⟩
            case measure =>
              have e1 : (cs3.setIfInBounds n (.int .i64 ((c : Int) - 1)))[n]? = some (.int .i64 ((c : Int) - 1)) := Array.getElem?_setIfInBounds_self_of_lt (by omega)
              simp [go_sem, e1, f1, intOf]
              omega
          · have hov' : ¬(1048576 : Int) < (v n c : Nat) := by have := mt hov.1 hlc; omega
            have hce : c = cap n := by omega
            have hTb : ShSt cs3 (ShC (n + 1)) (ShB n) := hT3.learn n (by rw [f1, hce]; unfold capG; rw [if_neg (by omega)]) (fun i d => by unfold ShC at *; omega)
            clear hov hce
            go_wp2_with (go_at_call 112; refine (HV.out _).mono ?_; rintro e w' ⟨rfl, rfl⟩)
            go_loopw [5] (fun cnt wr => ∃ k : Nat, 1 ≤ k ∧ k ≤ cap n + 1 ∧ cnt = .int .i64 k ∧ ∃ cs x, ShSt cs (ShC (n + 1)) (ShBk n k) ∧ wr = (w.alloc (.cells cs 160)).grew x) (fun cnt _ => cap n + 1 - (intOf cnt).toNat)
            case atStart => exact ⟨1, by omega, by omega, rfl, _, _, hTb.imp (fun i _ d => d) (fun i j _ _ d => ShBk.one d), rfl⟩
            case round =>
              obtain ⟨k, hk1, hk, rfl, cs4, x4, hT4, rfl⟩ := hrel
              have hsz4 := hT4.size
              have c32 := cap_le32 n (by omega)
              have c1 := hT4.cap_done n (by omega) (by unfold ShC; omega)
              rw [show capG n = (cap n : Nat) from by unfold capG; rw [if_neg (by omega)]] at c1
              by_cases hkl : k ≤ cap n
              · have hkl' : (k : Int) ≤ (cap n : Nat) := by omega
                obtain ⟨y4, c2, _⟩ := hT4.bits n k (by omega) (by omega)
                have HW := Lib.hid (fun x => work_any w.heap.size t ((w.alloc (.cells cs4 160)).grew x) (HT.out.below ht (by (repeat' (first | (with_reducible exact Below.refl _ _) | (with_reducible assumption) | (with_reducible refine Below.alloc ?_ ?_ _) | (with_reducible refine below_grew ?_ ?_ _) | (with_reducible refine Below.setCell ?_ ?_ _) | (with_reducible refine Below.drew ?_) | (with_reducible refine below_drewN ?_ _) | omega | (simp; done) | (simp; omega))))) n k (by omega) (by omega) (by simp; omega) (fun h9 i j hi hj => by
                  have hh := cap_half ⟨n - 9, by omega⟩
                  simp only [show n - 9 + 9 = n by omega] at hh
                  have := hT4.bits_done i j (by omega) (by omega) (by
        unfold ShBk ShB
        rcases hi with rfl | rfl <;> omega)
                  simp [go_sem, this]))
                have hk33 : (k : Int) < 33 := by omega
                have hn17 : (n : Int) < 17 := by omega
                go_wp2_with fail
                first | refine wp_region_grew2 12 (by kernel_rfl) (by kernel_rfl) ?_ | refine wp_region_grew 12 (by kernel_rfl) (by kernel_rfl) ?_
                simp only [List.take_succ_cons, List.take_zero, List.drop_succ_cons, List.drop_zero]
                repeat (go_big_quiet_step (first | (go_at_call 113; exact Calls.grew_of (HW.out _))))
                refine wpQuiet_nil ?_
                rintro _ ⟨x, rfl⟩
                go_wp2
                go_roundw
                case rel => exact ⟨k + 1, by omega, by omega, by go_num, _, _, hT4.set_bits n k (by omega) (by omega) _ rfl _ (by omega) (fun _ _ d => d) fun i j hi hj d => by
                  unfold ShBk at *
                  rcases d with d | d
                  · exact .inl (.inl d)
                  · by_cases e : j = k
                    · exact .inr ⟨d.1, e⟩
                    · exact .inl (.inr ⟨d.1, by omega⟩), rfl⟩
                case measure => simp [intOf]; omega
              · have hkl' : ¬(k : Int) ≤ (cap n : Nat) := by omega
                have hn17 : (n : Int) < 17 := by omega
                go_wp2
                go_roundw
                case rel => exact ⟨n + 1, by omega, by omega, by go_num, _, _, hT4.imp (fun i _ d => d) (fun i j _ _ d => by
                  unfold ShBk ShB at *
                  by_cases e : i = n
                  · subst e; omega
                  · omega), rfl⟩
                case measure => simp [intOf]; omega
      · have hn8' : ¬(n : Int) ≤ 8 := by omega
        have hn17 : (n : Int) < 17 := by omega
        have hh := cap_half ⟨n - 9, by omega⟩
        simp only [show n - 9 + 9 = n by omega] at hh
        have g1 := hT.cap_done (n / 2) (by omega) (by unfold ShC; omega)
        have g2 := hT.cap_done (n - n / 2) (by omega) (by unfold ShC; omega)
        obtain ⟨y0, f0, _⟩ := hT.caps n (by omega)
        have hdiv : (n : Int) / 2 < 17 := by omega
        have hdiv0 : (0 : Int) ≤ (n : Int) / 2 := by omega
        have hdf : (n : Int) - (n : Int) / 2 < 17 := by omega
        have hdf0 : (0 : Int) ≤ (n : Int) - (n : Int) / 2 := by omega
        rw [show capG (n / 2) = (cap (n / 2) : Nat) from by unfold capG; rw [if_neg (by omega)]] at g1
        rw [show capG (n - n / 2) = (cap (n - n / 2) : Nat) from by unfold capG; rw [if_neg (by omega)]] at g2
        go_wp2_with fail
        first | refine wp_region_grew2 22 (by kernel_rfl) (by kernel_rfl) ?_ | refine wp_region_grew 22 (by kernel_rfl) (by kernel_rfl) ?_
        simp only [List.take_succ_cons, List.take_zero, List.drop_succ_cons, List.drop_zero]
        repeat (go_big_quiet_step (fail))
        refine wpQuiet_nil ?_
        rintro _ ⟨x, rfl⟩
        go_wp2
        have hTb : ShSt (cs2.setIfInBounds n (.int .i64 (min (cap (n / 2) : Nat) (cap (n - n / 2) : Nat)))) (ShC (n + 1)) (ShB n) := hT.set_cap n (by omega) _ (fun _ => by unfold capG; rw [if_neg (by omega), hh]; omega) (fun i hi hne d => by unfold ShC at *; omega) (fun _ _ _ _ d => d)
        go_loopw [5] (fun cnt wr => ∃ k : Nat, 1 ≤ k ∧ k ≤ cap n + 1 ∧ cnt = .int .i64 k ∧ ∃ cs x, ShSt cs (ShC (n + 1)) (ShBk n k) ∧ wr = (w.alloc (.cells cs 160)).grew x) (fun cnt _ => cap n + 1 - (intOf cnt).toNat)
        case atStart => exact ⟨1, by omega, by omega, rfl, _, _, hTb.imp (fun i _ d => d) (fun i j _ _ d => ShBk.one d), rfl⟩
        case round =>
          obtain ⟨k, hk1, hk, rfl, cs4, x4, hT4, rfl⟩ := hrel
          have hsz4 := hT4.size
          have c32 := cap_le32 n (by omega)
          have c1 := hT4.cap_done n (by omega) (by unfold ShC; omega)
          rw [show capG n = (cap n : Nat) from by unfold capG; rw [if_neg (by omega)]] at c1
          by_cases hkl : k ≤ cap n
          · have hkl' : (k : Int) ≤ (cap n : Nat) := by omega
            obtain ⟨y4, c2, _⟩ := hT4.bits n k (by omega) (by omega)
            have HW := Lib.hid (fun x => work_any w.heap.size t ((w.alloc (.cells cs4 160)).grew x) (HT.out.below ht (by (repeat' (first | (with_reducible exact Below.refl _ _) | (with_reducible assumption) | (with_reducible refine Below.alloc ?_ ?_ _) | (with_reducible refine below_grew ?_ ?_ _) | (with_reducible refine Below.setCell ?_ ?_ _) | (with_reducible refine Below.drew ?_) | (with_reducible refine below_drewN ?_ _) | omega | (simp; done) | (simp; omega))))) n k (by omega) (by omega) (by simp; omega) (fun h9 i j hi hj => by
              have hh := cap_half ⟨n - 9, by omega⟩
              simp only [show n - 9 + 9 = n by omega] at hh
              have := hT4.bits_done i j (by omega) (by omega) (by
    unfold ShBk ShB
    rcases hi with rfl | rfl <;> omega)
              simp [go_sem, this]))
            have hk33 : (k : Int) < 33 := by omega
            have hn17 : (n : Int) < 17 := by omega
            go_wp2_with fail
            first | refine wp_region_grew2 12 (by kernel_rfl) (by kernel_rfl) ?_ | refine wp_region_grew 12 (by kernel_rfl) (by kernel_rfl) ?_
            simp only [List.take_succ_cons, List.take_zero, List.drop_succ_cons, List.drop_zero]
            repeat (go_big_quiet_step (first | (go_at_call 113; exact Calls.grew_of (HW.out _))))
            refine wpQuiet_nil ?_
            rintro _ ⟨x, rfl⟩
            go_wp2
            go_roundw
            case rel => exact ⟨k + 1, by omega, by omega, by go_num, _, _, hT4.set_bits n k (by omega) (by omega) _ rfl _ (by omega) (fun _ _ d => d) fun i j hi hj d => by
              unfold ShBk at *
              rcases d with d | d
              · exact .inl (.inl d)
              · by_cases e : j = k
                · exact .inr ⟨d.1, e⟩
                · exact .inl (.inr ⟨d.1, by omega⟩), rfl⟩
            case measure => simp [intOf]; omega
          · have hkl' : ¬(k : Int) ≤ (cap n : Nat) := by omega
            have hn17 : (n : Int) < 17 := by omega
            go_wp2
            go_roundw
            case rel => exact ⟨n + 1, by omega, by omega, by go_num, _, _, hT4.imp (fun i _ d => d) (fun i j _ _ d => by
              unfold ShBk ShB at *
              by_cases e : i = n
              · subst e; omega
              · omega), rfl⟩
            case measure => simp [intOf]; omega
    · have hlt' : ¬(n : Int) ≤ 16 := by omega
      go_wp2
      go_ret
      obtain rfl : n = 17 := by omega
      refine ⟨w.heap.size, rfl, Nat.le_refl _, ⟨cs2, ?_, hT⟩, by (repeat' (first | (with_reducible exact Below.refl _ _) | (with_reducible assumption) | (with_reducible refine Below.alloc ?_ ?_ _) | (with_reducible refine below_grew ?_ ?_ _) | (with_reducible refine Below.setCell ?_ ?_ _) | (with_reducible refine Below.drew ?_) | (with_reducible refine below_drewN ?_ _) | omega | (simp; done) | (simp; omega)))⟩
      rw [World.grew_block _ _ _ (by simp)]
      exact heap_alloc_new w _
end Go.Proofs.YtcibajleknhklaaDoor
end

section
namespace Go
set_option linter.unusedSimpArgs false
inductive Leaf where
  | int (k : IntKind)
  | bool
  deriving DecidableEq
def Leaf.fits : Leaf → Value → Bool
  | .int k, .int k' _ => decide (k = k')
  | .bool, .bool _ => true
  | _, _ => false
/-- Two cells alike. -/
def cellEq : Value → Value → Bool
  | .int _ a, .int _ b => a == b
  | .bool a, .bool b => a == b
  | _, _ => false
def cellsEq : List Value → List Value → Bool
  | [], [] => true
  | x :: xs, y :: ys => cellEq x y && cellsEq xs ys
  | _, _ => false
def fitAll : List Leaf → List Value → Bool
  | [], [] => true
  | l :: ls, x :: xs => l.fits x && fitAll ls xs
  | _, _ => false
/-- The fields' offsets are the sums of what stands ahead; none is blank. -/
def offsOk : List Field → List (List Leaf) → Nat → Bool
  | [], [], _ => true
  | f :: fs, l :: ls, o => f.name != "_" && f.offset == o && offsOk fs ls (o + l.length)
  | _, _, _ => false
/-- The cells of a type of whole numbers and bools. -/
def layout (P : Program) : Nat → TypeId → Option (List Leaf)
  | 0, _ => none
  | d + 1, t =>
    match P.underlying t with
    | some .bool => if (P.info? t).isSome && P.cellsOf t == 1 then some [.bool] else none
    | some (.int k) => if (P.info? t).isSome && P.cellsOf t == 1 then some [.int k] else none
    | some (.array n e) => (layout P d e).bind fun l => if (P.info? t).isSome && P.cellsOf t == (List.replicate n l).flatten.length then some (List.replicate n l).flatten else none
    | some (.struct fs) => (fs.toList.mapM fun f => layout P d f.type).bind fun ls => if (P.info? t).isSome && P.cellsOf t == ls.flatten.length && offsOk fs.toList ls 0 && !P.stoodInHeld t then some ls.flatten else none
    | _ => none
def isAggB (P : Program) (t : TypeId) : Bool := match P.underlying t with | some (.struct _) | some (.array _ _) => true | _ => false
def asVal (P : Program) (t : TypeId) (cs : List Value) : Value := if isAggB P t then .agg cs.toArray else cs.headD undef
theorem fitAll_length : ∀ {ls : List Leaf} {xs : List Value}, fitAll ls xs = true → xs.length = ls.length
  | [], [], _ => rfl
  | _ :: ls, _ :: xs, h => by
    simp only [fitAll, Bool.and_eq_true] at h
    simp [fitAll_length h.2]
theorem fits_bool {v : Value} (h : Leaf.bool.fits v = true) : ∃ b, v = .bool b := by
  cases v with
  | bool b => exact ⟨b, rfl⟩
  | _ => exact absurd h (by simp [Leaf.fits])
theorem fits_int {k : IntKind} {v : Value} (h : (Leaf.int k).fits v = true) : ∃ n, v = .int k n := by
  cases v with
  | int k' n =>
    have : k = k' := by simpa [Leaf.fits] using h
    exact ⟨n, by rw [this]⟩
  | _ => exact absurd h (by simp [Leaf.fits])
theorem fit_one {l : Leaf} {xs : List Value} (h : fitAll [l] xs = true) : ∃ x, xs = [x] ∧ l.fits x = true := by
  cases xs with
  | nil => simp [fitAll] at h
  | cons x xs =>
    cases xs with
    | nil => exact ⟨x, rfl, by simpa [fitAll] using h⟩
    | cons y ys => simp [fitAll] at h
theorem fitAll_append : ∀ {ls ms : List Leaf} {xs : List Value}, fitAll (ls ++ ms) xs = true → fitAll ls (xs.take ls.length) = true ∧ fitAll ms (xs.drop ls.length) = true
  | [], ms, xs, h => by simpa [fitAll] using h
  | l :: ls, ms, x :: xs, h => by
    simp only [List.cons_append, fitAll, Bool.and_eq_true] at h
    obtain ⟨h1, h2⟩ := fitAll_append h.2
    exact ⟨by simp [fitAll, h.1, h1], by simpa using h2⟩
theorem cellsEq_append : ∀ (xs ys us vs : List Value), xs.length = ys.length → cellsEq (xs ++ us) (ys ++ vs) = (cellsEq xs ys && cellsEq us vs)
  | [], [], us, vs, _ => by simp [cellsEq]
  | x :: xs, y :: ys, us, vs, h => by
    simp only [List.cons_append, cellsEq]
    rw [cellsEq_append xs ys us vs (by simpa using h), Bool.and_assoc]
section
variable {P : Program} (w : World)
theorem layout_info {d : Nat} {t : TypeId} {ls : List Leaf} (h : layout P d t = some ls) : ∃ i, P.info? t = some i ∧ i.size = ls.length := by
  cases d with
  | zero => simp [layout] at h
  | succ d =>
    have key : ∀ n : Nat, ((P.info? t).isSome && P.cellsOf t == n) = true → ∃ i, P.info? t = some i ∧ i.size = n := by
      intro n hn
      simp only [Bool.and_eq_true, beq_iff_eq] at hn
      obtain ⟨i, hi⟩ := Option.isSome_iff_exists.1 hn.1
      exact ⟨i, hi, by rw [← hn.2]; simp [Program.cellsOf, hi]⟩
    simp only [layout] at h
    split at h
    · split at h
      · cases h; exact key 1 (by assumption)
      · cases h
    · split at h
      · cases h; exact key 1 (by assumption)
      · cases h
    · simp only [Option.bind_eq_some_iff] at h
      obtain ⟨l, _, h⟩ := h
      split at h
      · cases h; exact key _ (by assumption)
      · cases h
    · simp only [Option.bind_eq_some_iff] at h
      obtain ⟨l, _, h⟩ := h
      split at h
      · rename_i hc
        cases h
        simp only [Bool.and_eq_true] at hc
        exact key _ (by simp only [Bool.and_eq_true]; exact hc.1.1)
      · cases h
    · cases h
theorem run_part_flat {d : Nat} {e : TypeId} {ls : List Leaf} (h : layout P d e = some ls) (cs : Array Value) (off : Nat) (hf : fitAll ls ((cs.toList.drop off).take ls.length) = true) :
    (part e cs off).run P w = .ok (asVal P e ((cs.toList.drop off).take ls.length)) w := by
  obtain ⟨i, hi, hs⟩ := layout_info h
  have hlen := fitAll_length hf
  cases d with
  | zero => simp [layout] at h
  | succ d =>
    have hex : (cs.extract off (off + ls.length)).toList = (cs.toList.drop off).take ls.length := by simp [List.drop_take]
    simp only [layout] at h
    unfold part asVal isAggB
    have one : ∀ (l : Leaf), ls = [l] → ∃ v, cs[off]? = some v ∧ (cs.toList.drop off).take ls.length = [v] := by
      intro l hl
      subst hl
      cases hd : cs.toList.drop off with
      | nil => rw [hd] at hlen; simp at hlen
      | cons v r =>
        refine ⟨v, ?_, by simp⟩
        have : (cs.toList.drop off)[0]? = some v := by rw [hd]; rfl
        simpa using this
    split at h
    · rename_i hu
      split at h
      · cases h
        obtain ⟨v, hv, he⟩ := one _ rfl
        simp only [Sem.run_bind, isAgg, run_underlying hu, Result.andThen_ok, Sem.run_pure, hu, Bool.false_eq_true, if_false, hv]
        rw [he]; rfl
      · cases h
    · rename_i hu
      split at h
      · cases h
        obtain ⟨v, hv, he⟩ := one _ rfl
        simp only [Sem.run_bind, isAgg, run_underlying hu, Result.andThen_ok, Sem.run_pure, hu, Bool.false_eq_true, if_false, hv]
        rw [he]; rfl
      · cases h
    · rename_i hu
      simp only [Sem.run_bind, isAgg, run_underlying hu, Result.andThen_ok, Sem.run_pure, hu, if_true, sizeOf, typeInfo, hi]
      simp only [Sem.run_bind, run_program, Result.andThen_ok, hi, Sem.run_pure, hs]
      rw [← hex]
    · rename_i hu
      simp only [Sem.run_bind, isAgg, run_underlying hu, Result.andThen_ok, Sem.run_pure, hu, if_true, sizeOf, typeInfo, hi]
      simp only [Sem.run_bind, run_program, Result.andThen_ok, hi, Sem.run_pure, hs]
      rw [← hex]
    · cases h
/-- What is to be shown of a type, at a depth. -/
def EqFlat (P : Program) (d : Nat) (t : TypeId) (ls : List Leaf) : Prop :=
  ∀ D, d ≤ D → ∀ (w : World) (xs ys : List Value), fitAll ls xs = true → fitAll ls ys = true → (Op.equalIn D t (asVal P t xs) (asVal P t ys)).run P w = .ok (cellsEq xs ys) w
theorem eqItems_flat {d D : Nat} {e : TypeId} {l : List Leaf} (hl : layout P d e = some l) (IH : EqFlat P d e l) (hD : d ≤ D) (hc : P.cellsOf e = l.length) (xs ys : Array Value) :
    ∀ (m k : Nat), fitAll (List.replicate m l).flatten (xs.toList.drop (k * l.length)) = true → fitAll (List.replicate m l).flatten (ys.toList.drop (k * l.length)) = true →
      (Op.eqItems D e (P.cellsOf e) xs ys (List.range' k m)).run P w = .ok (cellsEq (xs.toList.drop (k * l.length)) (ys.toList.drop (k * l.length))) w
  | 0, k, hx, hy => by
    have h1 : xs.toList.drop (k * l.length) = [] := List.length_eq_zero_iff.1 (by simpa using fitAll_length hx)
    have h2 : ys.toList.drop (k * l.length) = [] := List.length_eq_zero_iff.1 (by simpa using fitAll_length hy)
    rw [h1, h2]
    simp [Op.eqItems, cellsEq]
  | m + 1, k, hx, hy => by
    rw [List.replicate_succ, List.flatten_cons] at hx hy
    obtain ⟨x1, x2⟩ := fitAll_append hx
    obtain ⟨y1, y2⟩ := fitAll_append hy
    have hk : k * l.length + l.length = (k + 1) * l.length := by rw [Nat.add_mul]; omega
    rw [List.drop_drop, hk] at x2 y2
    have ih := eqItems_flat hl IH hD hc xs ys m (k + 1) x2 y2
    have ex : xs.toList.drop (k * l.length) = (xs.toList.drop (k * l.length)).take l.length ++ xs.toList.drop ((k + 1) * l.length) := by
      rw [← hk, ← List.drop_drop, List.take_append_drop]
    have ey : ys.toList.drop (k * l.length) = (ys.toList.drop (k * l.length)).take l.length ++ ys.toList.drop ((k + 1) * l.length) := by
      rw [← hk, ← List.drop_drop, List.take_append_drop]
    rw [ex, ey, cellsEq_append _ _ _ _ ((fitAll_length x1).trans (fitAll_length y1).symm)]
    simp only [List.range'_succ, Op.eqItems, Sem.run_bind]
    rw [hc] at ih ⊢
    rw [run_part_flat w hl xs (k * l.length) x1, Result.andThen_ok, run_part_flat w hl ys (k * l.length) y1, Result.andThen_ok, IH D hD w _ _ x1 y1, Result.andThen_ok]
    cases cellsEq ((xs.toList.drop (k * l.length)).take l.length) ((ys.toList.drop (k * l.length)).take l.length)
    · simp
    · simp only [Bool.not_true, Bool.false_eq_true, if_false, Bool.true_and]
      exact ih
theorem eqFields_flat {d D : Nat} (hD : d ≤ D) (xs ys : Array Value) :
    ∀ (fs : List Field) (ls : List (List Leaf)) (o : Nat), fs.mapM (fun f => layout P d f.type) = some ls → offsOk fs ls o = true → (∀ f l, f ∈ fs → layout P d f.type = some l → EqFlat P d f.type l) →
      fitAll ls.flatten (xs.toList.drop o) = true → fitAll ls.flatten (ys.toList.drop o) = true →
      (Op.eqFields D xs ys fs).run P w = .ok (cellsEq (xs.toList.drop o) (ys.toList.drop o)) w
  | [], ls, o, hm, _, _, hx, hy => by
    simp at hm
    subst hm
    have h1 : xs.toList.drop o = [] := List.length_eq_zero_iff.1 (by simpa using fitAll_length hx)
    have h2 : ys.toList.drop o = [] := List.length_eq_zero_iff.1 (by simpa using fitAll_length hy)
    rw [h1, h2]
    simp [Op.eqFields, cellsEq]
  | f :: fs, ls, o, hm, ho, IH, hx, hy => by
    rw [List.mapM_cons] at hm
    simp only [bind, Option.bind_eq_some_iff, pure, Option.some.injEq] at hm
    obtain ⟨l, hl, ls', hls, rfl⟩ := hm
    simp only [offsOk, Bool.and_eq_true, bne_iff_ne, beq_iff_eq] at ho
    obtain ⟨⟨hn, hoff⟩, ho⟩ := ho
    rw [List.flatten_cons] at hx hy
    obtain ⟨x1, x2⟩ := fitAll_append hx
    obtain ⟨y1, y2⟩ := fitAll_append hy
    rw [List.drop_drop] at x2 y2
    have ih := eqFields_flat hD xs ys fs ls' (o + l.length) hls ho (fun g l' hg => IH g l' (by simp [hg])) x2 y2
    have ex : xs.toList.drop o = (xs.toList.drop o).take l.length ++ xs.toList.drop (o + l.length) := by rw [← List.drop_drop, List.take_append_drop]
    have ey : ys.toList.drop o = (ys.toList.drop o).take l.length ++ ys.toList.drop (o + l.length) := by rw [← List.drop_drop, List.take_append_drop]
    rw [ex, ey, cellsEq_append _ _ _ _ ((fitAll_length x1).trans (fitAll_length y1).symm)]
    simp only [Op.eqFields, hn, ne_eq, not_false_eq_true, if_true, Sem.run_bind]
    rw [hoff, run_part_flat w hl xs o x1, Result.andThen_ok, run_part_flat w hl ys o y1, Result.andThen_ok, IH f l (by simp) hl D hD w _ _ x1 y1, Result.andThen_ok]
    cases cellsEq ((xs.toList.drop o).take l.length) ((ys.toList.drop o).take l.length)
    · simp
    · simp only [Bool.not_true, Bool.false_eq_true, if_false, Bool.true_and]
      exact ih
end
theorem run_equalIn_flat {P : Program} : ∀ (d : Nat) (t : TypeId) (ls : List Leaf), layout P d t = some ls → EqFlat P d t ls
  | 0, t, ls, h => by simp [layout] at h
  | d + 1, t, ls, h => by
    intro D hD w xs ys hx hy
    obtain ⟨D, rfl⟩ : ∃ E, D = E + 1 := ⟨D - 1, by omega⟩
    have hD' : d ≤ D := by omega
    simp only [layout] at h
    unfold asVal isAggB
    split at h
    · rename_i hu
      split at h
      · cases h
        obtain ⟨x, rfl, fx⟩ := fit_one hx
        obtain ⟨y, rfl, fy⟩ := fit_one hy
        · obtain ⟨a, rfl⟩ := fits_bool fx
          obtain ⟨b, rfl⟩ := fits_bool fy
          simp [hu, Op.equalIn, run_underlying hu, cellsEq, cellEq]
      · cases h
    · rename_i hu
      split at h
      · cases h
        obtain ⟨x, rfl, fx⟩ := fit_one hx
        obtain ⟨y, rfl, fy⟩ := fit_one hy
        · obtain ⟨a, rfl⟩ := fits_int fx
          obtain ⟨b, rfl⟩ := fits_int fy
          simp [hu, Op.equalIn, run_underlying hu, cellsEq, cellEq]
      · cases h
    · rename_i n e hu
      simp only [Option.bind_eq_some_iff] at h
      obtain ⟨l, hl, h⟩ := h
      split at h
      · cases h
        obtain ⟨i, hi, hs⟩ := layout_info hl
        simp only [hu, if_true]
        rw [run_equalIn_array w D _ _ hu hi, List.range_eq_range']
        have := eqItems_flat w hl (run_equalIn_flat d e l hl) hD' (by simp [Program.cellsOf, hi, hs]) xs.toArray ys.toArray n 0 (by simpa using hx) (by simpa using hy)
        simpa using this
      · cases h
    · rename_i fs hu
      simp only [Option.bind_eq_some_iff] at h
      obtain ⟨l, hl, h⟩ := h
      split at h
      · rename_i hc
        cases h
        simp only [Bool.and_eq_true, Bool.not_eq_true'] at hc
        have hfs : P.fieldsOf t = fs := by simp [Program.fieldsOf, hu]
        simp only [hu, if_true]
        rw [run_equalIn_struct w D t _ _ (by rw [hfs]; exact hu) hc.2, hfs]
        have := eqFields_flat w hD' xs.toArray ys.toArray fs.toList l 0 hl hc.1.2 (fun f l' _ h' => run_equalIn_flat d f.type l' h') (by simpa using hx) (by simpa using hy)
        simpa using this
      · cases h
    · cases h
attribute [go_sem] cellsEq cellEq
/-- '==' of two values of such a type, as the walk meets it. -/
theorem eq_flat {P : Program} (t : TypeId) (d : Nat) (ls : List Leaf) (hl : layout P d t = some ls) (hd : d ≤ 10000) (ha : isAggB P t = true) (xs ys : List Value) (hx : fitAll ls xs = true) (hy : fitAll ls ys = true) (w : World) :
    (Op.equalIn 10000 t (.agg xs.toArray) (.agg ys.toArray)).run P w = .ok (cellsEq xs ys) w := by
  have h := run_equalIn_flat d t ls hl 10000 hd w xs ys hx hy
  unfold asVal at h
  simpa [ha] using h
end Go
end

section
namespace Go
open Go.RowKit
theorem bcell {W w1 : World} (hb : Below W.heap.size W w1) : (∀ b o, b < W.heap.size → w1.cell? ⟨b, o, none⟩ = W.cell? ⟨b, o, none⟩) ∧ (∀ b o, b < W.heap.size → w1.frozen? ⟨b, o, none⟩ = W.frozen? ⟨b, o, none⟩) :=
  ⟨fun b o h => hb.cell (p := ⟨b, o, none⟩) h, fun b o h => hb.frozen (p := ⟨b, o, none⟩) h⟩
theorem alloc_at (w : World) (o : Obj) : (w.alloc o).heap[w.heap.size]? = some o := by show (w.heap.push o)[w.heap.size]? = _; simp
/-- U: what stands in each operation's slot. -/
def fillPuts : List Oper → (Nat → Value) → Nat → Act → Act
  | [], _, _, a => a
  | o :: l, U, i, a => fillPuts l U (i + 1) (a.put o.dst (U i))
def updU (U : Nat → Value) (i : Nat) (v : Value) : Nat → Value := fun j => if j = i then v else U j
def maskU (S : List Nat) (U : Nat → Value) : Nat → Value := fun j => if S.contains j then U j else undef
def predsOf (o : Oper) : List Nat := o.after.toList.filterMap fun e => if Region.binds .any e then some e.on else none
def slotOf (a : Act) (dst : Option Tmp) : Value := match dst with | some d => a.tmps.getD d undef | none => undef
abbrev RelU := (Nat → Value) → World → Prop
def HypsU (Rs : List RelU) (U : Nat → Value) (w : World) : List Nat → Prop
  | [] => True
  | p :: ps => (Rs.getD p fun _ _ => True) U w ∧ HypsU Rs U w ps
def AllU (U : Nat → Value) (w : World) : List RelU → Prop
  | [] => True
  | r :: rs => r U w ∧ AllU U w rs
def InvPost (T : World → World → Prop) (d : List Deferred) (w : World) (dst : Option Tmp) (G : Value → World → Prop) (e : Exit) (a' : Act) (w' : World) : Prop :=
  e = .normal ∧ a'.defers = d ∧ T w w' ∧ G (slotOf a' dst) w'
/-- The block that a value points into. -/
def blkOf : Value → Option Nat
  | .pointer (some a) => some a.block
  | .slice (some a) _ _ => some a.block
  | .map (some m) => some m
  | _ => none
/-- A value that points into a block made between two worlds. -/
def FreshV (v : Value) (w w' : World) : Prop := ∃ p, blkOf v = some p ∧ w.heap.size ≤ p ∧ p < w'.heap.size
/-- The fresh values differ. -/
def ApartF (F : List Nat) (U : Nat → Value) : Prop := ∀ i j, F.contains i = true → F.contains j = true → i ≠ j → blkOf (U i) ≠ blkOf (U j)
section
variable {P : Program} {ops : Array Oper}
/-- The walk: for each operation of the head what holds of its value. -/
def wpInv (P : Program) (ops : Array Oper) (F : List Nat) (C : World → Prop) (T : World → World → Prop) (hd : List Oper) (a0 : Act) (fin : (Nat → Value) → World → Prop) : Nat → List RelU → List Oper → Prop
  | _, Rs, [] => ∀ U w, C w → AllU U w Rs → ApartF F U → fin U w
  | i, Rs, o :: rest => ∃ r : RelU, (∀ U w, r U w = r (maskU (i :: predsOf o) U) w) ∧ (∀ U w w', C w → T w w' → r U w → r U w') ∧
      (∀ U w, C w → HypsU Rs U w (predsOf o) → wpList P ops (InvPost T a0.defers w o.dst fun v w' => r (updU U i v) w' ∧ (F.contains i = true → FreshV v w w')) [o] (fillPuts hd U 0 a0) w) ∧
      wpInv P ops F C T hd a0 fin (i + 1) (Rs ++ [r]) rest
theorem fillPuts_defers : ∀ (l : List Oper) (U : Nat → Value) (i : Nat) (a : Act), (fillPuts l U i a).defers = a.defers
  | [], _, _, _ => rfl
  | o :: l, U, i, a => by
    rw [fillPuts, fillPuts_defers l]
    unfold Act.put; split <;> rfl
theorem Act.put_put (a : Act) (d : Option Tmp) (u v : Value) : (a.put d u).put d v = a.put d v := by
  unfold Act.put
  cases d with
  | none => rfl
  | some d => simp
/-- No slot is written twice. -/
def distinctDst : List Oper → Bool
  | [] => true
  | o :: l => (match o.dst with | some d => l.all (fun p => p.dst != some d) | none => true) && distinctDst l
theorem put_fill_comm {d : Option Tmp} {v : Value} : ∀ (l : List Oper) (U : Nat → Value) (i : Nat) (a : Act), (∀ t, d = some t → l.all (fun p => p.dst != some t) = true) →
    fillPuts l U i (a.put d v) = (fillPuts l U i a).put d v
  | [], _, _, _, _ => rfl
  | o :: l, U, i, a, h => by
    simp only [fillPuts]
    rw [← put_fill_comm l U (i + 1) (a.put o.dst (U i)) (fun t ht => by
      have := h t ht
      simp only [List.all_cons, Bool.and_eq_true] at this
      exact this.2)]
    congr 1
    refine Act.put_comm a v (U i) ?_
    intro t ht ht2
    have := h t ht
    simp only [List.all_cons, Bool.and_eq_true, bne_iff_ne, ne_eq] at this
    exact this.1 ht2
theorem fillPuts_upd_lt : ∀ (l : List Oper) (U : Nat → Value) (k i : Nat) (v : Value) (a : Act), k < i → fillPuts l (updU U k v) i a = fillPuts l U i a
  | [], _, _, _, _, _, _ => rfl
  | o :: l, U, k, i, v, a, h => by
    simp only [fillPuts]
    rw [fillPuts_upd_lt l U k (i + 1) v _ (by omega)]
    have : updU U k v i = U i := by unfold updU; rw [if_neg (by omega)]
    rw [this]
theorem fillPuts_put : ∀ (l : List Oper) (U : Nat → Value) (i k : Nat) (o : Oper) (v : Value) (a : Act), distinctDst l = true → l[k]? = some o →
    (fillPuts l U i a).put o.dst v = fillPuts l (updU U (i + k) v) i a
  | [], _, _, _, _, _, _, _, h => by simp at h
  | p :: l, U, i, 0, o, v, a, hd, h => by
    obtain rfl : p = o := by simpa using h
    simp only [distinctDst, Bool.and_eq_true] at hd
    simp only [fillPuts, Nat.add_zero]
    rw [fillPuts_upd_lt l U i (i + 1) v _ (by omega), ← put_fill_comm l U (i + 1) _ (fun t ht => by have := hd.1; rw [ht] at this; simpa using this), Act.put_put]
    have : updU U i v i = v := by unfold updU; rw [if_pos rfl]
    rw [this]
  | p :: l, U, i, k + 1, o, v, a, hd, h => by
    simp only [distinctDst, Bool.and_eq_true] at hd
    simp only [fillPuts]
    rw [fillPuts_put l U (i + 1) k o v _ hd.2 (by simpa using h), show i + 1 + k = i + (k + 1) by omega]
    have : updU U (i + (k + 1)) v i = U i := by unfold updU; rw [if_neg (by omega)]
    rw [this]
theorem put_slot (a : Act) (d : Option Tmp) (v : Value) : a.put d (slotOf (a.put d v) d) = a.put d v := by
  cases d with
  | none => rfl
  | some d =>
    simp only [Act.put, slotOf]
    by_cases h : d < a.tmps.size
    · simp [h]
    · rw [Array.setIfInBounds_eq_of_size_le (Nat.le_of_not_lt h), Array.setIfInBounds_eq_of_size_le (Nat.le_of_not_lt h)]
theorem updU_eq (U : Nat → Value) (i : Nat) (v : Value) : updU U i v i = v := by unfold updU; rw [if_pos rfl]
theorem maskU_upd {S : List Nat} {U : Nat → Value} {i : Nat} {v : Value} (h : S.contains i = false) : maskU S (updU U i v) = maskU S U := by
  funext j
  unfold maskU updU
  by_cases e : j = i
  · subst e; rw [h]; rfl
  · rw [if_neg e]
theorem wpOp_of_list_inv {i : Nat} {o : Oper} {K : Act → World → Prop} {Q : Exit → Act → World → Prop} {a : Act} {w : World} {T : World → World → Prop} {d : List Deferred} {G : Value → World → Prop}
    (hi : ops[i]? = some o) (hd : a.defers = d)
    (hK : ∀ v w', T w w' → G (slotOf (a.put o.dst v) o.dst) w' → K (a.put o.dst v) w')
    (h : wpList P ops (InvPost T d w o.dst G) [o] a w) : wpOp P ops Q i K a w := by
  have hQ : ∀ v w', InvPost T d w o.dst G .normal (a.put o.dst v) w' → K (a.put o.dst v) w' := fun v w' h => hK v w' h.2.2.1 h.2.2.2
  have hF : ¬ LetsOut (InvPost T d w o.dst G) := by
    rintro ⟨a1, w1, h1⟩
    exact absurd h1.1 (by simp)
  unfold wpOp
  simp only [hi]
  unfold wpList at h
  split
  · rename_i hw
    rw [if_pos hw] at h
    rcases h with h | ⟨_, h⟩
    · refine .inl ?_
      unfold Oper.wp at *
      generalize (execOp a.eval o).run P w = r at *
      cases r with
      | ok n w' =>
        cases n <;> simp only [Oper.upon] at h ⊢
        case value u => exact hQ _ _ h
        case skip => exact hQ _ _ h
        case defer c =>
          have h2 : (({ a with defers := c :: a.defers } : Act).put o.dst undef).defers = d := h.2.1
          have h3 : (({ a with defers := c :: a.defers } : Act).put o.dst undef).defers = c :: a.defers := by unfold Act.put; split <;> rfl
          rw [h3, ← hd] at h2
          exact absurd (congrArg List.length h2) (by simp)
        case enter f args =>
          refine Calls.mono h fun e w'' he => ?_
          cases e with
          | returned u => exact hQ _ _ he
          | panicked c => exact absurd he.1 (by simp)
          | outgrown => exact absurd he hF
        case row row args => exact Rows.mono h fun u w'' he => hQ _ _ he
      | halt x w' =>
        cases x <;> simp only [Oper.upon] at h ⊢
        case panic u => exact absurd h.1 (by simp)
    · exact absurd h hF
  · rename_i hw
    rw [if_neg hw] at h
    exact hQ _ _ h
theorem wpList_post {o : Oper} {a : Act} {w : World} {T : World → World → Prop} {d : List Deferred} {dst : Option Tmp} {G G' : Value → World → Prop}
    (hG : ∀ a' w', InvPost T d w dst G .normal a' w' → InvPost T d w dst G' .normal a' w') (h : wpList P ops (InvPost T d w dst G) [o] a w) : wpList P ops (InvPost T d w dst G') [o] a w := by
  have hF : ¬ LetsOut (InvPost T d w dst G) := by
    rintro ⟨a1, w1, h1⟩
    exact absurd h1.1 (by simp)
  unfold wpList at h ⊢
  split
  · rename_i hw
    rw [if_pos hw] at h
    rcases h with h | ⟨_, h⟩
    · refine .inl ?_
      unfold Oper.wp at *
      generalize (execOp a.eval o).run P w = r at *
      cases r with
      | ok n w' =>
        cases n <;> simp only [Oper.upon] at h ⊢
        case value u => exact hG _ _ h
        case skip => exact hG _ _ h
        case defer c => exact hG _ _ h
        case enter f args =>
          refine Calls.mono h fun e w'' he => ?_
          cases e with
          | returned u => exact hG _ _ he
          | panicked c => exact absurd he.1 (by simp)
          | outgrown => exact absurd he hF
        case row row args => exact Rows.mono h fun u w'' he => hG _ _ he
      | halt x w' =>
        cases x <;> simp only [Oper.upon] at h ⊢
        case panic u => exact absurd h.1 (by simp)
    · exact absurd h hF
  · rename_i hw
    rw [if_neg hw] at h
    exact hG _ _ h
/-- Every edge leads back. -/
def backB (ops : Array Oper) : Bool := (List.range ops.size).all fun i => ((ops[i]?).map fun o => o.after.all fun e => !Region.binds .any e || decide (e.on < i)).getD true
def seqAfter (ops : Array Oper) (n : Nat) : Bool := Region.seqB .any ops (ops.size - n) n ((List.range ops.size).map fun i => decide (i < n)).toArray
def invB (ops : Array Oper) (n : Nat) : Bool :=
  decide (n < ops.size) && Region.sinkB .any ops n && Region.chainB .any ops n && backB ops && distinctDst (ops.toList.take n) && seqAfter ops n
theorem backB_spec (h : backB ops = true) {i : Nat} {o : Oper} (ho : ops[i]? = some o) : ∀ e ∈ o.after, Region.binds .any e = true → e.on < i := by
  intro e he hb
  have hlt : i < ops.size := (Array.getElem?_eq_some_iff.1 ho).1
  have h1 := List.all_eq_true.1 h i (List.mem_range.2 hlt)
  rw [ho] at h1
  simp only [Option.map_some, Option.getD_some, Array.all_eq_true_iff_forall_mem, Bool.or_eq_true, Bool.not_eq_true', decide_eq_true_eq] at h1
  rcases h1 e he with h2 | h2
  · rw [hb] at h2; cases h2
  · exact h2
theorem of_mem_predsOf {o : Oper} {p : Nat} (h : p ∈ predsOf o) : ∃ e ∈ o.after, Region.binds .any e = true ∧ e.on = p := by
  unfold predsOf at h
  rw [List.mem_filterMap] at h
  obtain ⟨e, he, h2⟩ := h
  split at h2
  · rename_i hb
    exact ⟨e, by simpa using he, hb, by simpa using h2⟩
  · cases h2
/-- What is known of a head: each operation's relation, that it looks at no other's value, that it stays, and its step. -/
structure HeadOK (P : Program) (ops : Array Oper) (F : List Nat) (C : World → Prop) (T : World → World → Prop) (hd : List Oper) (a0 : Act) (Rs : List RelU) : Prop where
  len : Rs.length = hd.length
  loc : ∀ j o, hd[j]? = some o → ∀ U w, (Rs.getD j fun _ _ => True) U w = (Rs.getD j fun _ _ => True) (maskU (j :: predsOf o) U) w
  stay : ∀ j U w w', C w → T w w' → (Rs.getD j fun _ _ => True) U w → (Rs.getD j fun _ _ => True) U w'
  step : ∀ j o, hd[j]? = some o → ∀ U w, C w → HypsU Rs U w (predsOf o) → wpList P ops (InvPost T a0.defers w o.dst fun v w' => (Rs.getD j fun _ _ => True) (updU U j v) w' ∧ (F.contains j = true → FreshV v w w')) [o] (fillPuts hd U 0 a0) w
theorem hypsU_append {Rs : List RelU} {more : List RelU} {U : Nat → Value} {w : World} : ∀ (ps : List Nat), (∀ p ∈ ps, p < Rs.length) → HypsU (Rs ++ more) U w ps → HypsU Rs U w ps
  | [], _, _ => trivial
  | p :: ps, hl, h => by
    refine ⟨?_, hypsU_append ps (fun q hq => hl q (by simp [hq])) h.2⟩
    have := h.1
    rwa [List.getD_eq_getElem?_getD, List.getElem?_append_left (hl p (by simp)), ← List.getD_eq_getElem?_getD] at this
theorem wpInv_ok {F : List Nat} {C : World → Prop} {T : World → World → Prop} {hd : List Oper} {a0 : Act} {fin : (Nat → Value) → World → Prop}
    (hback : ∀ j o, hd[j]? = some o → ∀ p ∈ predsOf o, p < j) :
    ∀ (rest : List Oper) (i : Nat) (Rs : List RelU), Rs.length = i → hd.drop i = rest → i ≤ hd.length →
      (∀ j o, j < i → hd[j]? = some o → ∀ U w, (Rs.getD j fun _ _ => True) U w = (Rs.getD j fun _ _ => True) (maskU (j :: predsOf o) U) w) →
      (∀ j U w w', j < i → C w → T w w' → (Rs.getD j fun _ _ => True) U w → (Rs.getD j fun _ _ => True) U w') →
      (∀ j o, j < i → hd[j]? = some o → ∀ U w, C w → HypsU Rs U w (predsOf o) → wpList P ops (InvPost T a0.defers w o.dst fun v w' => (Rs.getD j fun _ _ => True) (updU U j v) w' ∧ (F.contains j = true → FreshV v w w')) [o] (fillPuts hd U 0 a0) w) →
      wpInv P ops F C T hd a0 fin i Rs rest → ∃ Rs', HeadOK P ops F C T hd a0 Rs' ∧ ∀ U w, C w → AllU U w Rs' → ApartF F U → fin U w
  | [], i, Rs, hl, hdrop, hle, h1, h2, h3, h => by
    have hi : hd.length = i := by
      have := congrArg List.length hdrop
      simp at this
      omega
    refine ⟨Rs, ⟨by omega, fun j o hj => h1 j o (by rw [← hi]; exact (List.getElem?_eq_some_iff.1 hj).1) hj, fun j U w w' => ?_, fun j o hj => h3 j o (by rw [← hi]; exact (List.getElem?_eq_some_iff.1 hj).1) hj⟩, h⟩
    by_cases hj : j < i
    · exact h2 j U w w' hj
    · intro _ _ _
      rw [List.getD_eq_getElem?_getD, List.getElem?_eq_none (by omega)]
      trivial
  | o :: rest, i, Rs, hl, hdrop, hle, h1, h2, h3, h => by
    obtain ⟨r, ha, hb, hc, hn⟩ := h
    have hoi : hd[i]? = some o := by
      have := congrArg (fun l => l[0]?) hdrop
      simpa using this
    have hlt : i < hd.length := (List.getElem?_eq_some_iff.1 hoi).1
    have gl : ∀ j, j < i → (Rs ++ [r]).getD j (fun _ _ => True) = Rs.getD j (fun _ _ => True) := fun j hj => by
      rw [List.getD_eq_getElem?_getD, List.getElem?_append_left (by omega), ← List.getD_eq_getElem?_getD]
    have gi : (Rs ++ [r]).getD i (fun _ _ => True) = r := by
      rw [List.getD_eq_getElem?_getD, List.getElem?_append_right (by omega)]
      simp [hl]
    refine wpInv_ok hback rest (i + 1) (Rs ++ [r]) (by simp [hl]) ?_ (by omega) ?_ ?_ ?_ hn
    · rw [← List.drop_drop, hdrop]; rfl
    · intro j p hj hp U w
      by_cases e : j = i
      · subst e
        rw [gi]
        obtain rfl : p = o := Option.some.inj (hp.symm.trans hoi)
        exact ha U w
      · rw [gl j (by omega)]; exact h1 j p (by omega) hp U w
    · intro j U w w' hj
      by_cases e : j = i
      · subst e; rw [gi]; exact hb U w w'
      · rw [gl j (by omega)]; exact h2 j U w w' (by omega)
    · intro j p hj hp U w hC hH
      have hp' : ∀ q ∈ predsOf p, q < Rs.length := fun q hq => by have := hback j p hp q hq; omega
      have hH' := hypsU_append (predsOf p) hp' hH
      by_cases e : j = i
      · subst e
        rw [gi]
        obtain rfl : p = o := Option.some.inj (hp.symm.trans hoi)
        exact hc U w hC hH'
      · rw [gl j (by omega)]
        exact h3 j p (by omega) hp U w hC hH'
theorem hypsU_of {Rs : List RelU} {U : Nat → Value} {w : World} : ∀ (ps : List Nat), (∀ p ∈ ps, (Rs.getD p fun _ _ => True) U w) → HypsU Rs U w ps
  | [], _ => trivial
  | p :: ps, h => ⟨h p (by simp), hypsU_of ps fun q hq => h q (by simp [hq])⟩
theorem allU_of {U : Nat → Value} {w : World} : ∀ (Rs : List RelU), (∀ j, j < Rs.length → (Rs.getD j fun _ _ => True) U w) → AllU U w Rs
  | [], _ => trivial
  | r :: rs, h => ⟨by simpa using h 0 (by simp), allU_of rs fun j hj => by simpa using h (j + 1) (by simpa using hj)⟩
theorem wpAny_of_inv {F : List Nat} {C : World → Prop} {T : World → World → Prop} {n : Nat} {a0 : Act} {Rs : List RelU} {Q : Exit → Act → World → Prop} {l : List Oper} (hops : ops = l.toArray) (hB : invB ops n = true)
    (hCT : ∀ w w', C w → T w w' → C w') (hTs : ∀ w w', T w w' → w.heap.size ≤ w'.heap.size) (hFn : F.all (fun i => decide (i < n)) = true) (hOK : HeadOK P ops F C T (l.take n) a0 Rs)
    (hfin : ∀ U w, C w → AllU U w Rs → ApartF F U → wpList P ops Q (l.drop n) (fillPuts (l.take n) U 0 a0) w) :
    ∀ (f : Nat) (L : List Nat) (listed : Array Bool) (U : Nat → Value) (w : World), L.Nodup → L.length = f → (∀ j, j ∈ L ↔ j < n ∧ listed.getD j true = false) → HeadInv .any ops n listed → C w →
      (∀ j, j < n → listed.getD j false = true → (Rs.getD j fun _ _ => True) U w) → (∀ j, F.contains j = true → listed.getD j false = true → ∃ p, blkOf (U j) = some p ∧ p < w.heap.size) →
      (∀ i j, F.contains i = true → F.contains j = true → i ≠ j → listed.getD i false = true → listed.getD j false = true → blkOf (U i) ≠ blkOf (U j)) → wpAny P .any ops Q (f + (ops.size - n)) listed (fillPuts (l.take n) U 0 a0) w := by
  simp only [invB, Bool.and_eq_true, decide_eq_true_eq] at hB
  obtain ⟨⟨⟨⟨⟨hn, hs⟩, hc⟩, hback⟩, hdist⟩, hseq⟩ := hB
  have hlen : (l.take n).length = n := by subst hops; simp at hn ⊢; omega
  have hdl : (l.drop n).length = ops.size - n := by subst hops; simp
  intro f
  induction f with
  | zero =>
    intro L listed U w hnd hL hmem inv hC hR hFb hFd
    have hL0 : L = [] := List.length_eq_zero_iff.1 hL
    subst hL0
    have hall : ∀ j, j < n → listed.getD j true = true := fun j hj => by
      cases h : listed.getD j true with
      | true => rfl
      | false => exact absurd ((hmem j).2 ⟨hj, h⟩) (by simp)
    have hlisted : listed = ((List.range ops.size).map fun i => decide (i < n)).toArray := by
      apply Array.ext
      · simp [inv.size]
      · intro i h1 h2
        simp only [List.getElem_toArray, List.getElem_map, List.getElem_range]
        by_cases hi : i < n
        · have := hall i hi
          simp [h1] at this
          simp [this, hi]
        · have := inv.tail i (by omega) (by rw [← inv.size]; exact h1)
          simp [h1] at this
          simp [this, hi]
    rw [Nat.zero_add, ← hdl]
    refine wpAny_of_seq (l.drop n) n listed _ w (fun j => by subst hops; simp [List.getElem?_drop]) (by rw [hdl, hlisted]; exact hseq) ?_
    have hallf : ∀ j, j < n → listed.getD j false = true := fun j hjn => by
      have := hall j hjn
      have hjs : j < listed.size := by rw [inv.size]; omega
      simp [hjs] at this ⊢
      exact this
    have hFn' : ∀ j, F.contains j = true → j < n := fun j hj => by
      have := List.all_eq_true.1 hFn j (List.contains_iff_mem.1 hj)
      simpa using this
    refine hfin U w hC (allU_of Rs fun j hj => hR j (by rw [hOK.len, hlen] at hj; exact hj) (hallf j (by rw [hOK.len, hlen] at hj; exact hj))) (fun i j hi hj hij => hFd i j hi hj hij (hallf i (hFn' i hi)) (hallf j (hFn' j hj)))
  | succ f ih =>
    intro L listed U w hnd hL hmem inv hC hR hFb hFd
    have hne : L ≠ [] := fun h => by subst h; simp at hL
    obtain ⟨i0, hi0⟩ := List.exists_mem_of_ne_nil L hne
    obtain ⟨hi0n, hi0u⟩ := (hmem i0).1 hi0
    -- the least one that is not listed may come up
    have hready : Region.ready .any ops listed ≠ [] := by
      have key : ∀ (d i : Nat), i ≤ d → i < n → listed.getD i true = false → Region.ready .any ops listed ≠ [] := by
        intro d
        induction d with
        | zero =>
          intro i hid hin hiu
          have hi : i = 0 := by omega
          subst hi
          have hlt : 0 < ops.size := by omega
          intro h
          have : 0 ∈ Region.ready .any ops listed := mem_ready.2 ⟨hiu, ops[0], by simp [hlt], fun e he hb => absurd (backB_spec hback (i := 0) (by simp [hlt]) e he hb) (by omega)⟩
          rw [h] at this; cases this
        | succ d ihd =>
          intro i hid hin hiu
          have hlt : i < ops.size := by omega
          by_cases hex : ∃ e ∈ ops[i].after, Region.binds .any e = true ∧ listed.getD e.on false = false
          · obtain ⟨e, he, hb, hu⟩ := hex
            have hlt2 := backB_spec hback (i := i) (by simp [hlt]) e he hb
            exact ihd e.on (by omega) (by omega) (getD_in (by rw [inv.size]; omega) hu)
          · intro h
            have : i ∈ Region.ready .any ops listed := mem_ready.2 ⟨hiu, ops[i], by simp [hlt], fun e he hb => by
              cases h' : listed.getD e.on false with
              | true => rfl
              | false => exact absurd ⟨e, he, hb, h'⟩ hex⟩
            rw [h] at this; cases this
      exact key i0 i0 (Nat.le_refl _) hi0n hi0u
    rw [show f + 1 + (ops.size - n) = (f + (ops.size - n)) + 1 by omega]
    refine ⟨fun h => absurd h hready, fun i hi => ?_⟩
    obtain ⟨hiu, o, ho, hall⟩ := mem_ready.1 hi
    have hin : i < n := by
      rcases Nat.lt_or_ge i n with h | h
      · exact h
      · exact absurd hi (tail_waits hs hc hn inv _ i0 rfl hi0n hi0u i h)
    have hio : (l.take n)[i]? = some o := by
      subst hops
      rw [List.getElem?_take_of_lt hin]
      simpa using ho
    have hp : ∀ p ∈ predsOf o, p < n ∧ listed.getD p false = true := fun p hp => by
      obtain ⟨e, he, hb, rfl⟩ := of_mem_predsOf hp
      have := backB_spec hback ho e he hb
      exact ⟨by omega, hall e he hb⟩
    have hstep := hOK.step i o hio U w hC (hypsU_of _ fun p hpp => hR p (hp p hpp).1 (hp p hpp).2)
    refine wpOp_of_list_inv ho (fillPuts_defers _ _ _ _) (fun v w' hT hG => ?_) hstep
    have hC' := hCT w w' hC hT
    rw [← put_slot, fillPuts_put (l.take n) U 0 i o _ a0 (by subst hops; simpa using hdist) hio, Nat.zero_add]
    refine ih (L.erase i) (listed.setIfInBounds i true) _ w' (hnd.erase i) (by rw [List.length_erase_of_mem ((hmem i).2 ⟨hin, hiu⟩), hL]; rfl) (fun j => ?_) (inv.set hi hin) hC' (fun j hj hjl => ?_) ?_ ?_
    · rw [hnd.mem_erase_iff, hmem j]
      by_cases e : i = j
      · subst e
        constructor
        · rintro ⟨h, _⟩; exact absurd rfl h
        · rintro ⟨_, h⟩
          have hsz : i < listed.size := by rw [inv.size]; omega
          simp [hsz] at h
      · rw [getD_set_ne true e]
        constructor
        · rintro ⟨_, h⟩; exact h
        · intro h; exact ⟨fun h' => e h'.symm, h⟩
    · by_cases e : i = j
      · subst e; exact hG.1
      · rw [getD_set_ne false e] at hjl
        have hj1 := hOK.stay j U w w' hC hT (hR j hj hjl)
        have hjs : j < ops.size := by omega
        obtain ⟨oj, hoj⟩ : ∃ oj, ops[j]? = some oj := ⟨ops[j], by simp [hjs]⟩
        have hjo : (l.take n)[j]? = some oj := by
          subst hops
          rw [List.getElem?_take_of_lt hj]
          simpa using hoj
        have hni : (j :: predsOf oj).contains i = false := by
          rw [Bool.eq_false_iff]
          intro h
          rcases List.mem_cons.1 (List.contains_iff_mem.1 h) with h | h
          · exact e h
          · obtain ⟨e', he', hb', rfl⟩ := of_mem_predsOf h
            have := inv.closed j oj hoj hjl e' he' hb'
            rw [getD_both hiu] at this
            cases this
        rw [hOK.loc j oj hjo, maskU_upd hni, ← hOK.loc j oj hjo]
        exact hj1
    · intro j hj hjl
      by_cases e : i = j
      · subst e
        obtain ⟨p, hp1, _, hp2⟩ := hG.2 hj
        exact ⟨p, by rw [updU_eq]; exact hp1, hp2⟩
      · rw [getD_set_ne false e] at hjl
        obtain ⟨p, hp1, hp2⟩ := hFb j hj hjl
        refine ⟨p, ?_, Nat.lt_of_lt_of_le hp2 (hTs _ _ hT)⟩
        have : updU U i (slotOf (fillPuts (l.take n) U 0 a0 |>.put o.dst v) o.dst) j = U j := by unfold updU; rw [if_neg (fun h => e h.symm)]
        rw [this]; exact hp1
    · intro j k hj hk hjk hjl hkl
      have old : ∀ q, i ≠ q → updU U i (slotOf (fillPuts (l.take n) U 0 a0 |>.put o.dst v) o.dst) q = U q := fun q e => by unfold updU; rw [if_neg (fun h => e h.symm)]
      by_cases e : i = j
      · subst e
        have e2 : i ≠ k := hjk
        rw [getD_set_ne false e2] at hkl
        obtain ⟨p, hp1, hp2, _⟩ := hG.2 hj
        obtain ⟨q, hq1, hq2⟩ := hFb k hk hkl
        rw [updU_eq, old k e2, hp1, hq1]
        intro h
        have := Option.some.inj h
        omega
      · rw [getD_set_ne false e] at hjl
        by_cases e2 : i = k
        · subst e2
          obtain ⟨p, hp1, hp2, _⟩ := hG.2 hk
          obtain ⟨q, hq1, hq2⟩ := hFb j hj hjl
          rw [updU_eq, old j e, hp1, hq1]
          intro h
          have := Option.some.inj h
          omega
        · rw [getD_set_ne false e2] at hkl
          rw [old j e, old k e2]
          exact hFd j k hj hk hjk hjl hkl
/-- An operation whose value hangs on the values ahead of it alone. -/
theorem wpInv_det {F : List Nat} {C : World → Prop} {T : World → World → Prop} {hd : List Oper} {a0 : Act} {fin : (Nat → Value) → World → Prop} {i : Nat} {Rs : List RelU} {o : Oper} {rest : List Oper} (hp : (predsOf o).contains i = false) (hF : F.contains i = false)
    (h : ∃ f : (Nat → Value) → Value, (∀ U w, C w → HypsU Rs U w (predsOf o) → wpList P ops (InvPost T a0.defers w o.dst fun v _ => v = f U) [o] (fillPuts hd U 0 a0) w) ∧
      (∀ U, f U = f (maskU (predsOf o) U)) ∧ wpInv P ops F C T hd a0 fin (i + 1) (Rs ++ [fun U _ => U i = f U]) rest) : wpInv P ops F C T hd a0 fin i Rs (o :: rest) := by
  obtain ⟨f, h1, h2, h3⟩ := h
  have e1 : ∀ U, maskU (predsOf o) (maskU (i :: predsOf o) U) = maskU (predsOf o) U := fun U => by
    funext j
    unfold maskU
    by_cases hj : (predsOf o).contains j = true
    · rw [if_pos hj, if_pos hj, if_pos (by simp at hj ⊢; exact .inr hj)]
    · rw [if_neg hj, if_neg hj]
  refine ⟨fun U _ => U i = f U, fun U w => ?_, fun _ _ _ _ _ h => h, fun U w hC hH => ?_, h3⟩
  · have e2 : maskU (i :: predsOf o) U i = U i := by unfold maskU; rw [if_pos (by simp)]
    have e3 : f (maskU (i :: predsOf o) U) = f U := by rw [h2, e1, ← h2]
    show (U i = f U) = (maskU (i :: predsOf o) U i = f (maskU (i :: predsOf o) U))
    rw [e2, e3]
  · refine wpList_post (fun a' w' hq => ?_) (h1 U w hC hH)
    refine ⟨hq.1, hq.2.1, hq.2.2.1, ?_, fun h => by rw [hF] at h; cases h⟩
    have hq4 := hq.2.2.2
    show updU U i (slotOf a' o.dst) i = f (updU U i (slotOf a' o.dst))
    rw [updU_eq, hq4, h2 (updU U i (f U)), maskU_upd hp, ← h2]
/-- What stands in the slots at the beginning. -/
theorem fillPuts_start : ∀ (l : List Oper) (i : Nat) (a : Act), ∃ U, fillPuts l U i a = a
  | [], _, a => ⟨fun _ => undef, rfl⟩
  | o :: l, i, a => by
    obtain ⟨U, hU⟩ := fillPuts_start l (i + 1) a
    refine ⟨updU U i (slotOf a o.dst), ?_⟩
    simp only [fillPuts, updU_eq]
    rw [fillPuts_upd_lt l U i (i + 1) _ _ (by omega)]
    have : a.put o.dst (slotOf a o.dst) = a := by
      unfold Act.put slotOf
      cases o.dst with
      | none => rfl
      | some d =>
        simp only
        by_cases h : d < a.tmps.size
        · obtain ⟨tm, df⟩ := a
          congr 1
          apply Array.ext
          · simp
          · intro k h1 h2
            rw [Array.getElem_setIfInBounds]
            split
            · rename_i e; subst e; simp
            · rfl
        · rw [Array.setIfInBounds_eq_of_size_le (Nat.le_of_not_lt h)]
    rw [this]
    exact hU
theorem wp_region_inv {id : Nat} {Q : Exit → Act → World → Prop} {a : Act} {w : World} {l : List Oper} (F : List Nat) (C : World → Prop) (T : World → World → Prop) (n : Nat) (hm : P.follows .mixedOrders = true) (hB : invB l.toArray n = true)
    (hFn : F.all (fun i => decide (i < n)) = true) (hC : C w.drew) (hCT : ∀ w w', C w → T w w' → C w') (hTs : ∀ w w', T w w' → w.heap.size ≤ w'.heap.size)
    (h : wpInv P l.toArray F C T (l.take n) a (fun U w => wpList P l.toArray Q (l.drop n) (fillPuts (l.take n) U 0 a) w) 0 [] (l.take n)) : (Code.region id l.toArray true).wp P Q a w := by
  refine wp_region_any hm ?_
  have hB' := hB
  simp only [invB, Bool.and_eq_true, decide_eq_true_eq] at hB'
  obtain ⟨⟨⟨⟨⟨hn, hs⟩, hc⟩, hback⟩, hdist⟩, hseq⟩ := hB'
  have hn' : n < l.length := by simpa using hn
  obtain ⟨Rs, hOK, hfin⟩ := wpInv_ok (P := P) (hd := l.take n) (fun j o hj p hp => by
    obtain ⟨e, he, hb, rfl⟩ := of_mem_predsOf hp
    have hjn : j < n := by have := (List.getElem?_eq_some_iff.1 hj).1; simp at this; omega
    rw [List.getElem?_take_of_lt hjn] at hj
    exact backB_spec hback (i := j) (by simpa using hj) e he hb) (l.take n) 0 [] rfl rfl (by omega) (fun j o hj => absurd hj (by omega)) (fun j U w w' hj => absurd hj (by omega)) (fun j o hj => absurd hj (by omega)) h
  obtain ⟨U, hU⟩ := fillPuts_start (l.take n) 0 a
  have := wpAny_of_inv (P := P) (Q := Q) rfl hB hCT hTs hFn hOK hfin n (List.range n) (Array.replicate l.toArray.size false) U { w with drawn := w.drawn + 1 } List.nodup_range (by simp) (fun j => by
      rw [List.mem_range]
      constructor
      · intro hj
        exact ⟨hj, getD_in (by simp; omega) (getD_replicate_false _ _)⟩
      · exact fun h => h.1)
    ⟨by simp, fun j oj _ hl => (by rw [getD_replicate_false] at hl; cases hl), fun t _ ht => getD_in (by simpa using ht) (getD_replicate_false _ _)⟩ hC (fun j _ hl => by rw [getD_replicate_false] at hl; cases hl) (fun j _ hl => by rw [getD_replicate_false] at hl; cases hl) (fun i j _ _ _ hl => by rw [getD_replicate_false] at hl; cases hl)
  rw [hU] at this
  have e : n + (l.toArray.size - n) = l.toArray.size := by omega
  rwa [e] at this
end
end Go
end

section
namespace Go.RI
open Go Go.RowKit
section
variable {P : Program} {ops : Array Oper}
/-- The walk: for each operation of the head what holds of its value. -/
def wpInv (P : Program) (ops : Array Oper) (F : List Nat) (C : (Nat → Bool) → World → Prop) (T : Nat → World → World → Prop) (hd : List Oper) (a0 : Act) (fin : (Nat → Value) → World → Prop) : Nat → List RelU → List Oper → Prop
  | i, Rs, [] => ∀ D U w, (∀ k, k < i → D k = true) → C D w → AllU U w Rs → ApartF F U → fin U w
  | i, Rs, o :: rest => ∃ r : RelU, (∀ U w, r U w = r (maskU (i :: predsOf o) U) w) ∧ (∀ k D U w w', k ≠ i → D k = false → C D w → T k w w' → r U w → r U w') ∧
      (∀ D U w, D i = false → C D w → HypsU Rs U w (predsOf o) → wpList P ops (InvPost (T i) a0.defers w o.dst fun v w' => r (updU U i v) w' ∧ (F.contains i = true → FreshV v w w')) [o] (fillPuts hd U 0 a0) w) ∧
      wpInv P ops F C T hd a0 fin (i + 1) (Rs ++ [r]) rest
/-- What is known of a head: each operation's relation, that it looks at no other's value, that it stays, and its step. -/
structure HeadOK (P : Program) (ops : Array Oper) (F : List Nat) (C : (Nat → Bool) → World → Prop) (T : Nat → World → World → Prop) (hd : List Oper) (a0 : Act) (Rs : List RelU) : Prop where
  len : Rs.length = hd.length
  loc : ∀ j o, hd[j]? = some o → ∀ U w, (Rs.getD j fun _ _ => True) U w = (Rs.getD j fun _ _ => True) (maskU (j :: predsOf o) U) w
  stay : ∀ k j D U w w', k ≠ j → D k = false → C D w → T k w w' → (Rs.getD j fun _ _ => True) U w → (Rs.getD j fun _ _ => True) U w'
  step : ∀ j o, hd[j]? = some o → ∀ D U w, D j = false → C D w → HypsU Rs U w (predsOf o) → wpList P ops (InvPost (T j) a0.defers w o.dst fun v w' => (Rs.getD j fun _ _ => True) (updU U j v) w' ∧ (F.contains j = true → FreshV v w w')) [o] (fillPuts hd U 0 a0) w
theorem wpInv_ok {F : List Nat} {C : (Nat → Bool) → World → Prop} {T : Nat → World → World → Prop} {hd : List Oper} {a0 : Act} {fin : (Nat → Value) → World → Prop}
    (hback : ∀ j o, hd[j]? = some o → ∀ p ∈ predsOf o, p < j) :
    ∀ (rest : List Oper) (i : Nat) (Rs : List RelU), Rs.length = i → hd.drop i = rest → i ≤ hd.length →
      (∀ j o, j < i → hd[j]? = some o → ∀ U w, (Rs.getD j fun _ _ => True) U w = (Rs.getD j fun _ _ => True) (maskU (j :: predsOf o) U) w) →
      (∀ k j D U w w', j < i → k ≠ j → D k = false → C D w → T k w w' → (Rs.getD j fun _ _ => True) U w → (Rs.getD j fun _ _ => True) U w') →
      (∀ j o, j < i → hd[j]? = some o → ∀ D U w, D j = false → C D w → HypsU Rs U w (predsOf o) → wpList P ops (InvPost (T j) a0.defers w o.dst fun v w' => (Rs.getD j fun _ _ => True) (updU U j v) w' ∧ (F.contains j = true → FreshV v w w')) [o] (fillPuts hd U 0 a0) w) →
      wpInv P ops F C T hd a0 fin i Rs rest → ∃ Rs', HeadOK P ops F C T hd a0 Rs' ∧ ∀ D U w, (∀ k, k < hd.length → D k = true) → C D w → AllU U w Rs' → ApartF F U → fin U w
  | [], i, Rs, hl, hdrop, hle, h1, h2, h3, h => by
    have hi : hd.length = i := by
      have := congrArg List.length hdrop
      simp at this
      omega
    refine ⟨Rs, ⟨by omega, fun j o hj => h1 j o (by rw [← hi]; exact (List.getElem?_eq_some_iff.1 hj).1) hj, fun k j D U w w' => ?_, fun j o hj => h3 j o (by rw [← hi]; exact (List.getElem?_eq_some_iff.1 hj).1) hj⟩, fun D U w hD => h D U w (fun k hk => hD k (by omega))⟩
    by_cases hj : j < i
    · exact h2 k j D U w w' hj
    · intro _ _ _ _ _
      rw [List.getD_eq_getElem?_getD, List.getElem?_eq_none (by omega)]
      trivial
  | o :: rest, i, Rs, hl, hdrop, hle, h1, h2, h3, h => by
    obtain ⟨r, ha, hb, hc, hn⟩ := h
    have hoi : hd[i]? = some o := by
      have := congrArg (fun l => l[0]?) hdrop
      simpa using this
    have hlt : i < hd.length := (List.getElem?_eq_some_iff.1 hoi).1
    have gl : ∀ j, j < i → (Rs ++ [r]).getD j (fun _ _ => True) = Rs.getD j (fun _ _ => True) := fun j hj => by
      rw [List.getD_eq_getElem?_getD, List.getElem?_append_left (by omega), ← List.getD_eq_getElem?_getD]
    have gi : (Rs ++ [r]).getD i (fun _ _ => True) = r := by
      rw [List.getD_eq_getElem?_getD, List.getElem?_append_right (by omega)]
      simp [hl]
    refine wpInv_ok hback rest (i + 1) (Rs ++ [r]) (by simp [hl]) ?_ (by omega) ?_ ?_ ?_ hn
    · rw [← List.drop_drop, hdrop]; rfl
    · intro j p hj hp U w
      by_cases e : j = i
      · subst e
        rw [gi]
        obtain rfl : p = o := Option.some.inj (hp.symm.trans hoi)
        exact ha U w
      · rw [gl j (by omega)]; exact h1 j p (by omega) hp U w
    · intro k j D U w w' hj
      by_cases e : j = i
      · subst e; rw [gi]; exact hb k D U w w'
      · rw [gl j (by omega)]; exact h2 k j D U w w' (by omega)
    · intro j p hj hp D U w hDj hC hH
      have hp' : ∀ q ∈ predsOf p, q < Rs.length := fun q hq => by have := hback j p hp q hq; omega
      have hH' := hypsU_append (predsOf p) hp' hH
      by_cases e : j = i
      · subst e
        rw [gi]
        obtain rfl : p = o := Option.some.inj (hp.symm.trans hoi)
        exact hc D U w hDj hC hH'
      · rw [gl j (by omega)]
        exact h3 j p (by omega) hp D U w hDj hC hH'
theorem wpAny_of_inv {F : List Nat} {C : (Nat → Bool) → World → Prop} {T : Nat → World → World → Prop} {n : Nat} {a0 : Act} {Rs : List RelU} {Q : Exit → Act → World → Prop} {l : List Oper} (hops : ops = l.toArray) (hB : invB ops n = true)
    (hCT : ∀ k D w w', D k = false → C D w → T k w w' → C (fun j => if j = k then true else D j) w') (hTs : ∀ k w w', T k w w' → w.heap.size ≤ w'.heap.size) (hFn : F.all (fun i => decide (i < n)) = true) (hOK : HeadOK P ops F C T (l.take n) a0 Rs)
    (hfin : ∀ D U w, (∀ k, k < n → D k = true) → C D w → AllU U w Rs → ApartF F U → wpList P ops Q (l.drop n) (fillPuts (l.take n) U 0 a0) w) :
    ∀ (f : Nat) (L : List Nat) (listed : Array Bool) (U : Nat → Value) (w : World), L.Nodup → L.length = f → (∀ j, j ∈ L ↔ j < n ∧ listed.getD j true = false) → HeadInv .any ops n listed → C (fun k => listed.getD k false) w →
      (∀ j, j < n → listed.getD j false = true → (Rs.getD j fun _ _ => True) U w) → (∀ j, F.contains j = true → listed.getD j false = true → ∃ p, blkOf (U j) = some p ∧ p < w.heap.size) →
      (∀ i j, F.contains i = true → F.contains j = true → i ≠ j → listed.getD i false = true → listed.getD j false = true → blkOf (U i) ≠ blkOf (U j)) → wpAny P .any ops Q (f + (ops.size - n)) listed (fillPuts (l.take n) U 0 a0) w := by
  simp only [invB, Bool.and_eq_true, decide_eq_true_eq] at hB
  obtain ⟨⟨⟨⟨⟨hn, hs⟩, hc⟩, hback⟩, hdist⟩, hseq⟩ := hB
  have hlen : (l.take n).length = n := by subst hops; simp at hn ⊢; omega
  have hdl : (l.drop n).length = ops.size - n := by subst hops; simp
  intro f
  induction f with
  | zero =>
    intro L listed U w hnd hL hmem inv hC hR hFb hFd
    have hL0 : L = [] := List.length_eq_zero_iff.1 hL
    subst hL0
    have hall : ∀ j, j < n → listed.getD j true = true := fun j hj => by
      cases h : listed.getD j true with
      | true => rfl
      | false => exact absurd ((hmem j).2 ⟨hj, h⟩) (by simp)
    have hlisted : listed = ((List.range ops.size).map fun i => decide (i < n)).toArray := by
      apply Array.ext
      · simp [inv.size]
      · intro i h1 h2
        simp only [List.getElem_toArray, List.getElem_map, List.getElem_range]
        by_cases hi : i < n
        · have := hall i hi
          simp [h1] at this
          simp [this, hi]
        · have := inv.tail i (by omega) (by rw [← inv.size]; exact h1)
          simp [h1] at this
          simp [this, hi]
    rw [Nat.zero_add, ← hdl]
    refine wpAny_of_seq (l.drop n) n listed _ w (fun j => by subst hops; simp [List.getElem?_drop]) (by rw [hdl, hlisted]; exact hseq) ?_
    have hallf : ∀ j, j < n → listed.getD j false = true := fun j hjn => by
      have := hall j hjn
      have hjs : j < listed.size := by rw [inv.size]; omega
      simp [hjs] at this ⊢
      exact this
    have hFn' : ∀ j, F.contains j = true → j < n := fun j hj => by
      have := List.all_eq_true.1 hFn j (List.contains_iff_mem.1 hj)
      simpa using this
    refine hfin _ U w hallf hC (allU_of Rs fun j hj => hR j (by rw [hOK.len, hlen] at hj; exact hj) (hallf j (by rw [hOK.len, hlen] at hj; exact hj))) (fun i j hi hj hij => hFd i j hi hj hij (hallf i (hFn' i hi)) (hallf j (hFn' j hj)))
  | succ f ih =>
    intro L listed U w hnd hL hmem inv hC hR hFb hFd
    have hne : L ≠ [] := fun h => by subst h; simp at hL
    obtain ⟨i0, hi0⟩ := List.exists_mem_of_ne_nil L hne
    obtain ⟨hi0n, hi0u⟩ := (hmem i0).1 hi0
    -- the least one that is not listed may come up
    have hready : Region.ready .any ops listed ≠ [] := by
      have key : ∀ (d i : Nat), i ≤ d → i < n → listed.getD i true = false → Region.ready .any ops listed ≠ [] := by
        intro d
        induction d with
        | zero =>
          intro i hid hin hiu
          have hi : i = 0 := by omega
          subst hi
          have hlt : 0 < ops.size := by omega
          intro h
          have : 0 ∈ Region.ready .any ops listed := mem_ready.2 ⟨hiu, ops[0], by simp [hlt], fun e he hb => absurd (backB_spec hback (i := 0) (by simp [hlt]) e he hb) (by omega)⟩
          rw [h] at this; cases this
        | succ d ihd =>
          intro i hid hin hiu
          have hlt : i < ops.size := by omega
          by_cases hex : ∃ e ∈ ops[i].after, Region.binds .any e = true ∧ listed.getD e.on false = false
          · obtain ⟨e, he, hb, hu⟩ := hex
            have hlt2 := backB_spec hback (i := i) (by simp [hlt]) e he hb
            exact ihd e.on (by omega) (by omega) (getD_in (by rw [inv.size]; omega) hu)
          · intro h
            have : i ∈ Region.ready .any ops listed := mem_ready.2 ⟨hiu, ops[i], by simp [hlt], fun e he hb => by
              cases h' : listed.getD e.on false with
              | true => rfl
              | false => exact absurd ⟨e, he, hb, h'⟩ hex⟩
            rw [h] at this; cases this
      exact key i0 i0 (Nat.le_refl _) hi0n hi0u
    rw [show f + 1 + (ops.size - n) = (f + (ops.size - n)) + 1 by omega]
    refine ⟨fun h => absurd h hready, fun i hi => ?_⟩
    obtain ⟨hiu, o, ho, hall⟩ := mem_ready.1 hi
    have hin : i < n := by
      rcases Nat.lt_or_ge i n with h | h
      · exact h
      · exact absurd hi (tail_waits hs hc hn inv _ i0 rfl hi0n hi0u i h)
    have hio : (l.take n)[i]? = some o := by
      subst hops
      rw [List.getElem?_take_of_lt hin]
      simpa using ho
    have hp : ∀ p ∈ predsOf o, p < n ∧ listed.getD p false = true := fun p hp => by
      obtain ⟨e, he, hb, rfl⟩ := of_mem_predsOf hp
      have := backB_spec hback ho e he hb
      exact ⟨by omega, hall e he hb⟩
    have hstep := hOK.step i o hio _ U w (getD_both hiu) hC (hypsU_of _ fun p hpp => hR p (hp p hpp).1 (hp p hpp).2)
    refine wpOp_of_list_inv ho (fillPuts_defers _ _ _ _) (fun v w' hT hG => ?_) hstep
    have hC' := hCT i _ w w' (getD_both hiu) hC hT
    have hDe : (fun j => if j = i then true else listed.getD j false) = fun k => (listed.setIfInBounds i true).getD k false := by
      funext j
      by_cases e : i = j
      · subst e
        have hsz : i < listed.size := by rw [inv.size]; omega
        simp [hsz]
      · rw [if_neg (fun h => e h.symm), getD_set_ne false e]
    rw [hDe] at hC'
    rw [← put_slot, fillPuts_put (l.take n) U 0 i o _ a0 (by subst hops; simpa using hdist) hio, Nat.zero_add]
    refine ih (L.erase i) (listed.setIfInBounds i true) _ w' (hnd.erase i) (by rw [List.length_erase_of_mem ((hmem i).2 ⟨hin, hiu⟩), hL]; rfl) (fun j => ?_) (inv.set hi hin) hC' (fun j hj hjl => ?_) ?_ ?_
    · rw [hnd.mem_erase_iff, hmem j]
      by_cases e : i = j
      · subst e
        constructor
        · rintro ⟨h, _⟩; exact absurd rfl h
        · rintro ⟨_, h⟩
          have hsz : i < listed.size := by rw [inv.size]; omega
          simp [hsz] at h
      · rw [getD_set_ne true e]
        constructor
        · rintro ⟨_, h⟩; exact h
        · intro h; exact ⟨fun h' => e h'.symm, h⟩
    · by_cases e : i = j
      · subst e; exact hG.1
      · rw [getD_set_ne false e] at hjl
        have hj1 := hOK.stay i j _ U w w' e (getD_both hiu) hC hT (hR j hj hjl)
        have hjs : j < ops.size := by omega
        obtain ⟨oj, hoj⟩ : ∃ oj, ops[j]? = some oj := ⟨ops[j], by simp [hjs]⟩
        have hjo : (l.take n)[j]? = some oj := by
          subst hops
          rw [List.getElem?_take_of_lt hj]
          simpa using hoj
        have hni : (j :: predsOf oj).contains i = false := by
          rw [Bool.eq_false_iff]
          intro h
          rcases List.mem_cons.1 (List.contains_iff_mem.1 h) with h | h
          · exact e h
          · obtain ⟨e', he', hb', rfl⟩ := of_mem_predsOf h
            have := inv.closed j oj hoj hjl e' he' hb'
            rw [getD_both hiu] at this
            cases this
        rw [hOK.loc j oj hjo, maskU_upd hni, ← hOK.loc j oj hjo]
        exact hj1
    · intro j hj hjl
      by_cases e : i = j
      · subst e
        obtain ⟨p, hp1, _, hp2⟩ := hG.2 hj
        exact ⟨p, by rw [updU_eq]; exact hp1, hp2⟩
      · rw [getD_set_ne false e] at hjl
        obtain ⟨p, hp1, hp2⟩ := hFb j hj hjl
        refine ⟨p, ?_, Nat.lt_of_lt_of_le hp2 (hTs _ _ _ hT)⟩
        have : updU U i (slotOf (fillPuts (l.take n) U 0 a0 |>.put o.dst v) o.dst) j = U j := by unfold updU; rw [if_neg (fun h => e h.symm)]
        rw [this]; exact hp1
    · intro j k hj hk hjk hjl hkl
      have old : ∀ q, i ≠ q → updU U i (slotOf (fillPuts (l.take n) U 0 a0 |>.put o.dst v) o.dst) q = U q := fun q e => by unfold updU; rw [if_neg (fun h => e h.symm)]
      by_cases e : i = j
      · subst e
        have e2 : i ≠ k := hjk
        rw [getD_set_ne false e2] at hkl
        obtain ⟨p, hp1, hp2, _⟩ := hG.2 hj
        obtain ⟨q, hq1, hq2⟩ := hFb k hk hkl
        rw [updU_eq, old k e2, hp1, hq1]
        intro h
        have := Option.some.inj h
        omega
      · rw [getD_set_ne false e] at hjl
        by_cases e2 : i = k
        · subst e2
          obtain ⟨p, hp1, hp2, _⟩ := hG.2 hk
          obtain ⟨q, hq1, hq2⟩ := hFb j hj hjl
          rw [updU_eq, old j e, hp1, hq1]
          intro h
          have := Option.some.inj h
          omega
        · rw [getD_set_ne false e2] at hkl
          rw [old j e, old k e2]
          exact hFd j k hj hk hjk hjl hkl
/-- An operation whose value hangs on the values ahead of it alone. -/
theorem wpInv_det {F : List Nat} {C : (Nat → Bool) → World → Prop} {T : Nat → World → World → Prop} {hd : List Oper} {a0 : Act} {fin : (Nat → Value) → World → Prop} {i : Nat} {Rs : List RelU} {o : Oper} {rest : List Oper} (hp : (predsOf o).contains i = false) (hF : F.contains i = false)
    (h : ∃ f : (Nat → Value) → Value, (∀ D U w, D i = false → C D w → HypsU Rs U w (predsOf o) → wpList P ops (InvPost (T i) a0.defers w o.dst fun v _ => v = f U) [o] (fillPuts hd U 0 a0) w) ∧
      (∀ U, f U = f (maskU (predsOf o) U)) ∧ wpInv P ops F C T hd a0 fin (i + 1) (Rs ++ [fun U _ => U i = f U]) rest) : wpInv P ops F C T hd a0 fin i Rs (o :: rest) := by
  obtain ⟨f, h1, h2, h3⟩ := h
  have e1 : ∀ U, maskU (predsOf o) (maskU (i :: predsOf o) U) = maskU (predsOf o) U := fun U => by
    funext j
    unfold maskU
    by_cases hj : (predsOf o).contains j = true
    · rw [if_pos hj, if_pos hj, if_pos (by simp at hj ⊢; exact .inr hj)]
    · rw [if_neg hj, if_neg hj]
  refine ⟨fun U _ => U i = f U, fun U w => ?_, fun _ _ _ _ _ _ _ _ _ h => h, fun D U w hDi hC hH => ?_, h3⟩
  · have e2 : maskU (i :: predsOf o) U i = U i := by unfold maskU; rw [if_pos (by simp)]
    have e3 : f (maskU (i :: predsOf o) U) = f U := by rw [h2, e1, ← h2]
    show (U i = f U) = (maskU (i :: predsOf o) U i = f (maskU (i :: predsOf o) U))
    rw [e2, e3]
  · refine wpList_post (T := T i) (fun a' w' hq => ?_) (h1 D U w hDi hC hH)
    refine ⟨hq.1, hq.2.1, hq.2.2.1, ?_, fun h => by rw [hF] at h; cases h⟩
    have hq4 := hq.2.2.2
    show updU U i (slotOf a' o.dst) i = f (updU U i (slotOf a' o.dst))
    rw [updU_eq, hq4, h2 (updU U i (f U)), maskU_upd hp, ← h2]
theorem wp_region_inv {id : Nat} {Q : Exit → Act → World → Prop} {a : Act} {w : World} {l : List Oper} (F : List Nat) (C : (Nat → Bool) → World → Prop) (T : Nat → World → World → Prop) (n : Nat) (hm : P.follows .mixedOrders = true) (hB : invB l.toArray n = true)
    (hFn : F.all (fun i => decide (i < n)) = true) (hC : C (fun _ => false) w.drew) (hCT : ∀ k D w w', D k = false → C D w → T k w w' → C (fun j => if j = k then true else D j) w') (hTs : ∀ k w w', T k w w' → w.heap.size ≤ w'.heap.size)
    (h : wpInv P l.toArray F C T (l.take n) a (fun U w => wpList P l.toArray Q (l.drop n) (fillPuts (l.take n) U 0 a) w) 0 [] (l.take n)) : (Code.region id l.toArray true).wp P Q a w := by
  refine wp_region_any hm ?_
  have hB' := hB
  simp only [invB, Bool.and_eq_true, decide_eq_true_eq] at hB'
  obtain ⟨⟨⟨⟨⟨hn, hs⟩, hc⟩, hback⟩, hdist⟩, hseq⟩ := hB'
  have hn' : n < l.length := by simpa using hn
  obtain ⟨Rs, hOK, hfin⟩ := wpInv_ok (P := P) (hd := l.take n) (fun j o hj p hp => by
    obtain ⟨e, he, hb, rfl⟩ := of_mem_predsOf hp
    have hjn : j < n := by have := (List.getElem?_eq_some_iff.1 hj).1; simp at this; omega
    rw [List.getElem?_take_of_lt hjn] at hj
    exact backB_spec hback (i := j) (by simpa using hj) e he hb) (l.take n) 0 [] rfl rfl (by omega) (fun j o hj => absurd hj (by omega)) (fun k j D U w w' hj => absurd hj (by omega)) (fun j o hj => absurd hj (by omega)) h
  obtain ⟨U, hU⟩ := fillPuts_start (l.take n) 0 a
  have := wpAny_of_inv (P := P) (Q := Q) rfl hB hCT hTs hFn hOK (fun D U w hD => hfin D U w (fun k hk => hD k (by simp at hk; omega))) n (List.range n) (Array.replicate l.toArray.size false) U { w with drawn := w.drawn + 1 } List.nodup_range (by simp) (fun j => by
      rw [List.mem_range]
      constructor
      · intro hj
        exact ⟨hj, getD_in (by simp; omega) (getD_replicate_false _ _)⟩
      · exact fun h => h.1)
    ⟨by simp, fun j oj _ hl => (by rw [getD_replicate_false] at hl; cases hl), fun t _ ht => getD_in (by simpa using ht) (getD_replicate_false _ _)⟩ (by
      have e : (fun k => (Array.replicate l.toArray.size false).getD k false) = fun _ => false := funext fun k => getD_replicate_false _ _
      rw [e]; exact hC) (fun j _ hl => by rw [getD_replicate_false] at hl; cases hl) (fun j _ hl => by rw [getD_replicate_false] at hl; cases hl) (fun i j _ _ _ hl => by rw [getD_replicate_false] at hl; cases hl)
  rw [hU] at this
  have e : n + (l.toArray.size - n) = l.toArray.size := by omega
  rwa [e] at this
end
end Go.RI
end

section
namespace Go
open Go.RowKit
set_option linter.unusedSimpArgs false
/-- A cell of a kind, within its bounds. -/
def Leaf.fitsW : Leaf → Value → Bool
  | .int k, .int k' n => decide (k = k') && (Lit.int k n).wf
  | .bool, .bool _ => true
  | _, _ => false
def fitAllW : List Leaf → List Value → Bool
  | [], [] => true
  | l :: ls, x :: xs => l.fitsW x && fitAllW ls xs
  | _, _ => false
theorem fitAllW_append : ∀ {ls ms : List Leaf} {xs ys : List Value}, fitAllW ls xs = true → fitAllW ms ys = true → fitAllW (ls ++ ms) (xs ++ ys) = true
  | [], ms, [], ys, _, h2 => by simpa using h2
  | l :: ls, ms, x :: xs, ys, h1, h2 => by
    simp only [fitAllW, Bool.and_eq_true] at h1
    simp only [List.cons_append, fitAllW, Bool.and_eq_true]
    exact ⟨h1.1, fitAllW_append h1.2 h2⟩
theorem fitAllW_length : ∀ {ls : List Leaf} {xs : List Value}, fitAllW ls xs = true → xs.length = ls.length
  | [], [], _ => rfl
  | _ :: ls, _ :: xs, h => by
    simp only [fitAllW, Bool.and_eq_true] at h
    simp [fitAllW_length h.2]
theorem fitAllW_at : ∀ {ls : List Leaf} {xs : List Value} (i : Nat) (k : IntKind), fitAllW ls xs = true → ls[i]? = some (.int k) → ∃ n, xs[i]? = some (.int k n) ∧ (Lit.int k n).wf = true
  | l :: ls, x :: xs, 0, k, h, hi => by
    obtain rfl : l = .int k := by simpa using hi
    simp only [fitAllW, Bool.and_eq_true] at h
    have h1 := h.1
    cases x with
    | int k' n =>
      simp only [Leaf.fitsW, Bool.and_eq_true, decide_eq_true_eq] at h1
      obtain ⟨rfl, hw⟩ := h1
      exact ⟨n, rfl, hw⟩
    | _ => exact absurd h1 (by simp [Leaf.fitsW])
  | l :: ls, x :: xs, i + 1, k, h, hi => by
    simp only [fitAllW, Bool.and_eq_true] at h
    simpa using fitAllW_at i k h.2 (by simpa using hi)
theorem layout_cells {P : Program} {d : Nat} {t : TypeId} {ls : List Leaf} (h : layout P d t = some ls) : P.cellsOf t = ls.length := by
  obtain ⟨i, h1, h2⟩ := layout_info h
  simp [Program.cellsOf, h1, h2]
section
variable {H : Type} {enc : TypeId × Value → H} {P : Program} {w : World} {base : Nat} {spare : Nat → Bool} {held : Bool}
theorem fields_flat {d n : Nat} (IH : ∀ (t : TypeId) (ls : List Leaf) (cs : List Value) (x : DataW H × List MemPlace), layout P d t = some ls → DataW.trod enc P w base spare held n t cs = some x → fitAllW ls cs = true) (cs : List Value) :
    ∀ (fs : List Field) (ls : List (List Leaf)) (xs : List (DataW H × List MemPlace)) (o : Nat), fs.mapM (fun f => layout P d f.type) = some ls → offsOk fs ls o = true → xs.length = fs.length →
      (∀ (i : Nat) (f : Field), fs[i]? = some f → DataW.trod enc P w base spare held n f.type ((cs.drop f.offset).take (P.cellsOf f.type)) = xs[i]?) → fitAllW ls.flatten ((cs.drop o).take ls.flatten.length) = true
  | [], ls, xs, o, h, _, _, _ => by
    simp at h
    subst h
    simp [fitAllW]
  | f :: fs, ls, xs, o, h, ho, hl, hx => by
    rw [List.mapM_cons] at h
    obtain ⟨l, h1, h2⟩ := Option.bind_eq_some_iff.1 h
    obtain ⟨ls', h3, h4⟩ := Option.bind_eq_some_iff.1 h2
    obtain rfl : l :: ls' = ls := by simpa using h4
    simp only [offsOk, Bool.and_eq_true, beq_iff_eq] at ho
    obtain ⟨⟨_, rfl⟩, ho⟩ := ho
    match xs, hl with
    | x :: xs, hl =>
      have hx0 := hx 0 f rfl
      simp only [List.getElem?_cons_zero] at hx0
      rw [layout_cells h1] at hx0
      have a1 := IH _ _ _ _ h1 hx0
      have a2 := fields_flat IH cs fs ls' xs (f.offset + l.length) h3 ho (by simpa using hl) (fun i g hg => by simpa using hx (i + 1) g (by simpa using hg))
      have e : (cs.drop f.offset).take (l :: ls').flatten.length = (cs.drop f.offset).take l.length ++ (cs.drop (f.offset + l.length)).take ls'.flatten.length := by
        rw [List.flatten_cons, List.length_append, List.take_add, List.drop_drop]
      rw [e, List.flatten_cons]
      exact fitAllW_append a1 a2
theorem items_flat {l : List Leaf} (cs : List Value) : ∀ (n o : Nat), (∀ i, i < n → fitAllW l ((cs.drop (o + i * l.length)).take l.length) = true) → fitAllW (List.replicate n l).flatten ((cs.drop o).take (List.replicate n l).flatten.length) = true
  | 0, _, _ => by simp [fitAllW]
  | n + 1, o, h => by
    have a1 := h 0 (by omega)
    have a2 := items_flat cs n (o + l.length) (fun i hi => by
      have := h (i + 1) (by omega)
      rwa [show o + (i + 1) * l.length = o + l.length + i * l.length by rw [Nat.add_mul]; omega] at this)
    simp only [Nat.zero_mul, Nat.add_zero] at a1
    have e : (cs.drop o).take (List.replicate (n + 1) l).flatten.length = (cs.drop o).take l.length ++ (cs.drop (o + l.length)).take (List.replicate n l).flatten.length := by
      rw [List.replicate_succ, List.flatten_cons, List.length_append, List.take_add, List.drop_drop]
    rw [e, List.replicate_succ, List.flatten_cons]
    exact fitAllW_append a1 a2
theorem flat_of_trod : ∀ (d n : Nat) (t : TypeId) (ls : List Leaf) (cs : List Value) (x : DataW H × List MemPlace), layout P d t = some ls → DataW.trod enc P w base spare held n t cs = some x → fitAllW ls cs = true
  | 0, _, _, _, _, _, h, _ => by simp [layout] at h
  | d + 1, n, t, ls, cs, x, h, ht => by
    have hcells := layout_cells h
    unfold layout at h
    split at h
    · rename_i hu
      split at h
      · obtain rfl : [Leaf.bool] = ls := by simpa using h
        cases n with
        | zero => simp [DataW.trod] at ht
        | succ n =>
          unfold DataW.trod at ht
          rw [hu] at ht
          split at ht <;> simp_all [fitAllW, Leaf.fitsW]
      · cases h
    · rename_i k hu
      split at h
      · obtain rfl : [Leaf.int k] = ls := by simpa using h
        obtain ⟨m, rfl, _, hw⟩ := DataW.trod_int hu ht
        simp [fitAllW, Leaf.fitsW, hw]
      · cases h
    · rename_i m e hu
      obtain ⟨l, h1, h2⟩ := Option.bind_eq_some_iff.1 h
      split at h2
      · obtain rfl : (List.replicate m l).flatten = ls := by simpa using h2
        obtain ⟨xs, n', rfl, rfl, hl, hlen, hx⟩ := DataW.trod_array hu ht
        rw [hcells] at hl
        have := items_flat (l := l) cs m 0 (fun i hi => by
          have h3 := hx i hi
          rw [layout_cells h1, List.getElem?_eq_getElem (by omega)] at h3
          rw [Nat.zero_add]
          exact flat_of_trod d n' e l _ _ h1 h3)
        rw [List.drop_zero, ← hl, List.take_length] at this
        exact this
      · cases h2
    · rename_i fs hu
      obtain ⟨ls', h1, h2⟩ := Option.bind_eq_some_iff.1 h
      split at h2
      · rename_i hc
        obtain rfl : ls'.flatten = ls := by simpa using h2
        simp only [Bool.and_eq_true] at hc
        obtain ⟨xs, n', rfl, rfl, hl, hlen, hx⟩ := DataW.trod_struct hu ht
        rw [hcells] at hl
        have := fields_flat (fun t ls cs x => flat_of_trod d n' t ls cs x) cs fs.toList ls' xs 0 h1 hc.1.2 (by simpa using hlen) (fun i f hf => by
          rw [hx i f (by simpa using hf)])
        rw [List.drop_zero, ← hl, List.take_length] at this
        exact this
      · cases h2
    · cases h
end
end Go
end

section
namespace Go.Proofs.YtcibajleknhklaaDoor
theorem wf_u8 {n : Int} (h : (Lit.int .u8 n).wf = true) : 0 ≤ n ∧ n ≤ 255 := by
  simpa [Lit.wf, IntKind.min, IntKind.max, IntKind.signed, IntKind.bits] using h
end Go.Proofs.YtcibajleknhklaaDoor
end

section
section
namespace Go
open Go.RowKit
/-- What follows is shown of every world of which this is known. -/
theorem cut_world {P : Program} {c : Code} {Q : Exit → Act → World → Prop} {a : Act} {w : World} (F : World → Prop) (hF : F w) (h : ∀ W, F W → c.wp P Q a W) : c.wp P Q a w := h w hF
end Go
end
section
namespace Go
open Go.RowKit
/-- A block whose cells are all known. -/
theorem block_facts {w : World} {p : Nat} {cs : Array Value} {T : TypeId} (h : w.heap[p]? = some (.cells cs T (0, 0))) : (∀ i, w.cell? ⟨p, i, none⟩ = cs[i]?) ∧ (∀ i, w.frozen? ⟨p, i, none⟩ = false) ∧ p < w.heap.size :=
  ⟨fun i => by simp [World.cell?, h], fun i => by simp [World.frozen?, h], (Array.getElem?_eq_some_iff.1 h).1⟩
end Go
end
section
namespace Go
open Go.RowKit
theorem setCell_own (w : World) (K i : Nat) (cs : Array Value) (T : TypeId) (f : Nat × Nat) (v : Value) (h : w.heap[K]? = some (.cells cs T f)) : (w.setCell ⟨K, i, none⟩ v).heap[K]? = some (.cells (cs.setIfInBounds i v) T f) := by
  show (w.heap.modify K _)[K]? = _
  rw [Array.getElem?_modify, if_pos rfl, h]
  rfl
theorem alloc_old (w : World) (o : Obj) (k : Nat) (h : k < w.heap.size) : (w.alloc o).heap[k]? = w.heap[k]? := by
  show (w.heap.push o)[k]? = _
  rw [Array.getElem?_push, if_neg (by omega)]
end Go
end
section
namespace Go
open Go.RowKit
theorem results_row_tmp {P : Program} {fn : Func} {p u : Tmp} {ty : TypeId} (h : fn.results = #[.cell p ty, .tmp u]) (tmps : Array Value) (w : World) (g : Nat) (t : TypeId) (cs : Array Value) (fr : Nat × Nat) (d : TypeDesc) (v : Value)
    (hp : tmps.getD p undef = .pointer (some ⟨g, 0, none⟩)) (hv : tmps.getD u undef = v) (hg : w.heap[g]? = some (.cells cs t fr))
    (hu : P.underlying ty = some d) (hd : (match d with | .struct _ | .array _ _ => true | _ => false) = true) (hi : (P.info? ty).map (·.size) = some cs.size) :
    (results fn tmps).run P w = .ok (.tuple #[.agg cs, v]) w := by
  rw [results_cell_tmp h, hp, hv]
  simp [asAddr, run_loadVar_row w g t ty cs fr d hg hu hd hi, Result.andThen]
end Go
end
section
namespace Go.Proofs.YtcibajleknhklaaDoor
open Go.RowKit Go.BigFrame Go.Proofs.YtcibajleknhklaaDoorW.PrintWords Go.Proofs.YtcibajleknhklaaDoorW.PrintLast Go.Proofs.YtcibajleknhklaaDoorW.PrintMore
set_option linter.unusedSimpArgs false
set_option linter.unusedVariables false
theorem w64_id {x : Int} (h1 : -4611686018427387904 ≤ x) (h2 : x ≤ 4611686018427387904) : wrap64 x = x := by unfold wrap64; omega
theorem wn_add {a b : Nat} (ha : a ≤ 1000) (hb : b ≤ 1000) : wrap64 ((a : Int) + (b : Int)) = ((a + b : Nat) : Int) := by
  rw [w64_id (by omega) (by omega)]; omega
theorem wn_add1 {a : Nat} (ha : a ≤ 1000) : wrap64 ((a : Int) + 1) = ((a + 1 : Nat) : Int) := wn_add (b := 1) ha (by decide)
theorem rd_nat (l : List Int) (j : Nat) : rd l (j : Int) = l.getD j 0 := by unfold rd; rw [Int.toNat_natCast]
end Go.Proofs.YtcibajleknhklaaDoor
end
section
namespace Go.Proofs.YtcibajleknhklaaDoor
open Go.RowKit Go.BigFrame Go.Proofs.YtcibajleknhklaaDoorW.PrintWords Go.Proofs.YtcibajleknhklaaDoorW.PrintLast Go.Proofs.YtcibajleknhklaaDoorW.PrintMore
set_option linter.unusedSimpArgs false
set_option linter.unusedVariables false
/-- N whole numbers, each of its own kind. -/
def ag (k : Nat → IntKind) (N : Nat) (st : Nat → Int) : Array Value := ((List.range N).map fun i => Value.int (k i) (st i)).toArray
def updI (st : Nat → Int) (i : Nat) (x : Int) : Nat → Int := fun j => if j = i then x else st j
theorem ag_size (k : Nat → IntKind) (N : Nat) (st : Nat → Int) : (ag k N st).size = N := by simp [ag]
theorem ag_get (k : Nat → IntKind) (N : Nat) (st : Nat → Int) (i : Nat) (h : i < N) : (ag k N st)[i]? = some (.int (k i) (st i)) := by
  simp [ag, h]
theorem ag_set (k : Nat → IntKind) (N : Nat) (st : Nat → Int) (i : Nat) (h : i < N) (x : Int) : (ag k N st).setIfInBounds i (.int (k i) x) = ag k N (updI st i x) := by
  apply Array.ext
  · simp [ag]
  · intro j h1 h2
    have hj : j < N := by simpa [ag] using h2
    rw [Array.getElem_setIfInBounds (by simpa [ag] using hj)]
    unfold updI
    by_cases e : i = j
    · subst e; simp [ag]
    · rw [if_neg e]; simp [ag, Ne.symm e]
theorem ag_ext (k : Nat → IntKind) (N : Nat) (s t : Nat → Int) (h : ∀ i, i < N → s i = t i) : ag k N s = ag k N t := by
  unfold ag
  congr 1
  apply List.map_congr_left
  intro i hi
  rw [h i (by simpa using hi)]
end Go.Proofs.YtcibajleknhklaaDoor
end
section
namespace Go.Proofs.YtcibajleknhklaaDoor
open Go.RowKit Go.BigFrame Go.Proofs.YtcibajleknhklaaDoorW.PrintWords Go.Proofs.YtcibajleknhklaaDoorW.PrintLast Go.Proofs.YtcibajleknhklaaDoorW.PrintMore
set_option linter.unusedSimpArgs false
set_option linter.unusedVariables false
theorem cells_all {w : World} {g N : Nat} {e : TypeId} {old cs : Array Value} (h : w.heap[g]? = some (.cells old e (0, 0))) (h1 : old.size = N) (h2 : cs.size = N) : (w.setCells g 0 cs.toList).heap[g]? = some (.cells cs e (0, 0)) := by
  obtain ⟨cur, q1, q2, q3⟩ := setCells_row cs.toList 0 w old h (by rw [Array.length_toList]; omega)
  have : cur = cs := by
    apply Array.ext'
    rw [q3, List.take_zero, List.nil_append, List.drop_of_length_le (by rw [Array.length_toList, Array.length_toList]; omega), List.append_nil]
  rw [q1, this]
theorem ag_one (k : Nat → IntKind) (N : Nat) (st : Nat → Int) : (ag k N st).all (·.oneCell') = true := by
  rw [Array.all_eq_true]
  intro i hi
  simp [ag, Value.oneCell']
end Go.Proofs.YtcibajleknhklaaDoor
end
section
namespace Go.Proofs.YtcibajleknhklaaDoor
open Go.RowKit Go.BigFrame Go.Proofs.YtcibajleknhklaaDoorW.PrintWords Go.Proofs.YtcibajleknhklaaDoorW.PrintLast Go.Proofs.YtcibajleknhklaaDoorW.PrintMore
set_option linter.unusedSimpArgs false
set_option linter.unusedVariables false
/-- A store into a great value. -/
theorem ag_store {w : World} {b N : Nat} {e : TypeId} {k : Nat → IntKind} {f : Nat → Int} (h : w.heap[b]? = some (.cells (ag k N f) e (0, 0))) (i : Nat) (hi : i < N) (x : Int) :
    (w.setCell ⟨b, i, none⟩ (.int (k i) x)).heap[b]? = some (.cells (ag k N (updI f i x)) e (0, 0)) := by
  rw [setCell_own _ _ _ _ _ _ _ h, ag_set k N f i hi x]
theorem ag_cell {w : World} {b N : Nat} {e : TypeId} {k : Nat → IntKind} {f : Nat → Int} (h : w.heap[b]? = some (.cells (ag k N f) e (0, 0))) (i : Nat) (hi : i < N) :
    w.cell? ⟨b, i, none⟩ = some (.int (k i) (f i)) := by rw [(block_facts h).1 i, ag_get _ _ _ _ hi]
theorem there_row {w : World} {b : Nat} {e : TypeId} {old : Array Value} (h : w.heap[b]? = some (.cells old e (0, 0))) (n : Nat) (hn : n ≤ old.size) : w.there b 0 n := by
  intro j hj
  rw [Nat.zero_add]
  refine ⟨?_, (block_facts h).2.1 j⟩
  rw [(block_facts h).1 j, Array.getElem?_eq_getElem (by omega)]
  rfl
theorem alloc_two (w : World) (o p : Obj) : ((w.alloc o).alloc p).heap[w.heap.size]? = some o :=
  ((below_alloc (Below.refl _ _) _ : Below (w.alloc o).heap.size _ ((w.alloc o).alloc p)).block _ (by simp)).trans (alloc_at _ _)
theorem alloc_three (w : World) (o p q : Obj) : (((w.alloc o).alloc p).alloc q).heap[w.heap.size]? = some o :=
  ((below_alloc (Below.refl _ _) _ : Below ((w.alloc o).alloc p).heap.size _ (((w.alloc o).alloc p).alloc q)).block _ (by simp; omega)).trans (alloc_two _ _ _)
theorem alloc_third (w : World) (o p q : Obj) : (((w.alloc o).alloc p).alloc q).heap[w.heap.size + 1 + 1]? = some q := by
  have := alloc_at ((w.alloc o).alloc p) q
  rw [show ((w.alloc o).alloc p).heap.size = w.heap.size + 1 + 1 from by simp] at this
  exact this
theorem alloc_second (w : World) (o p q : Obj) : (((w.alloc o).alloc p).alloc q).heap[w.heap.size + 1]? = some p := by
  have := alloc_two (w.alloc o) p q
  rw [show (w.alloc o).heap.size = w.heap.size + 1 from by simp] at this
  exact this
end Go.Proofs.YtcibajleknhklaaDoor
end
section
namespace Go.Proofs.YtcibajleknhklaaDoor
open Go.RowKit Go.BigFrame Go.Proofs.YtcibajleknhklaaDoorW.PrintWords Go.Proofs.YtcibajleknhklaaDoorW.PrintLast Go.Proofs.YtcibajleknhklaaDoorW.PrintMore
set_option linter.unusedSimpArgs false
set_option linter.unusedVariables false
/-- One block has been written, no other one. -/
structure Only (B : Nat) (w w' : World) : Prop where
  os : w'.os = w.os
  tape : w'.tape = w.tape
  output : w'.output = w.output
  size : w'.heap.size = w.heap.size
  block : ∀ k, k ≠ B → w'.heap[k]? = w.heap[k]?
theorem Only.below {B C : Nat} {w0 w w' : World} (h : Only B w w') (hb : Below C w0 w) (hB : C ≤ B) : Below C w0 w' :=
  hb.trans ⟨h.os, h.tape, h.output, Nat.le_of_eq h.size.symm, fun k hk => h.block k (by omega)⟩
theorem Only.setCell {w w' : World} {p : Addr} (v : Value) (h : Only p.block w w') : Only p.block w (w'.setCell p v) :=
  ⟨h.os, h.tape, h.output, by rw [← h.size]; simp, fun k hk => (Below.heap_setCell w' p v k hk).trans (h.block k hk)⟩
theorem Only.refl (B : Nat) (w : World) : Only B w w := ⟨rfl, rfl, rfl, rfl, fun _ _ => rfl⟩
theorem Only.trans {B : Nat} {a b c : World} (h : Only B a b) (k : Only B b c) : Only B a c :=
  ⟨k.os.trans h.os, k.tape.trans h.tape, k.output.trans h.output, k.size.trans h.size, fun i hi => (k.block i hi).trans (h.block i hi)⟩
theorem only_setCell (w : World) (p : Addr) (v : Value) : Only p.block w (w.setCell p v) := (Only.refl _ w).setCell v
theorem only_setCells (w : World) (g o : Nat) (vs : List Value) : Only g w (w.setCells g o vs) := by
  obtain ⟨h1, h2, h3, h4⟩ := setCells_same g vs o w
  exact ⟨h1, h2, h3, h4, fun k hk => setCells_far vs o k hk⟩
abbrev Bx (B : Nat) (T : TypeId) (k : Nat → IntKind) (N : Nat) (f : Nat → Int) (w : World) : Prop := w.heap[B]? = some (.cells (ag k N f) T (0, 0))
theorem Bx.keep {B T k N f} {w w' : World} (h : Bx B T k N f w) (hb : Below w.heap.size w w') : Bx B T k N f w' := (hb.block B (block_facts h).2.2).trans h
theorem Bx.only {B C T k N f} {w w' : World} (h : Bx B T k N f w) (ho : Only C w w') (hne : B ≠ C) : Bx B T k N f w' := (ho.block B hne).trans h
theorem ag_toList (k : Nat → IntKind) (N : Nat) (f : Nat → Int) : (ag k N f).toList = (List.range N).map fun i => Value.int (k i) (f i) := by simp [ag]
/-- A part of a block, as a row that is read. -/
theorem bx_reads {B T k N f} {w : World} (h : Bx B T k N f w) (κ : IntKind) (o n : Nat) (hN : o + n ≤ N) (hm : N ≤ 1000000) (hk : ∀ j, o ≤ j → j < o + n → k j = κ) :
    Kd.C (Kd.int κ) w (some ⟨B, o, none⟩) ((List.range n).map fun i => f (o + i)).length ((List.range n).map fun i => f (o + i)) := by
  refine ⟨rfl, by simp; omega, fun hn => ⟨_, rfl, fun j p hj => ⟨[.int κ p], rfl, rfl, fun i u hu => ?_⟩⟩⟩
  have hj' : j < n := by
    have := (List.getElem?_eq_some_iff.1 hj).1
    simpa using this
  simp only [List.getElem?_map, List.getElem?_range hj', Option.map_some, Option.some.injEq] at hj
  subst hj
  cases i with
  | zero =>
    obtain rfl : Value.int κ (f (o + j)) = u := by simpa using hu
    have e : (⟨B, o, none⟩ : Addr).add (j * (Kd.int κ).sz + 0) = ⟨B, o + j, none⟩ := by
      have : j * (Kd.int κ).sz + 0 = j := by show j * 1 + 0 = j; omega
      rw [this]; unfold Addr.add; split <;> simp_all
    rw [e, ag_cell h (o + j) (by omega), hk (o + j) (by omega) (by omega)]
  | succ i => simp at hu
end Go.Proofs.YtcibajleknhklaaDoor
end
section
namespace Go.Proofs.YtcibajleknhklaaDoor
open Go.RowKit Go.BigFrame Go.Proofs.YtcibajleknhklaaDoorW.PrintWords Go.Proofs.YtcibajleknhklaaDoorW.PrintLast Go.Proofs.YtcibajleknhklaaDoorW.PrintMore
set_option linter.unusedSimpArgs false
set_option linter.unusedVariables false
theorem alloc_secondOf (w : World) (o p : Obj) : ((w.alloc o).alloc p).heap[w.heap.size + 1]? = some p := by
  have := alloc_at (w.alloc o) p
  rw [show (w.alloc o).heap.size = w.heap.size + 1 from by simp] at this
  exact this
end Go.Proofs.YtcibajleknhklaaDoor
end
section
namespace Go.Proofs.YtcibajleknhklaaDoor
open Go.RowKit Go.BigFrame Go.Proofs.YtcibajleknhklaaDoorW.PrintWords Go.Proofs.YtcibajleknhklaaDoorW.PrintLast Go.Proofs.YtcibajleknhklaaDoorW.PrintMore
set_option linter.unusedSimpArgs false
set_option linter.unusedVariables false
theorem fitAll_ag (k : Nat → IntKind) (f : Nat → Int) : ∀ l : List Nat, fitAll (l.map fun i => Leaf.int (k i)) (l.map fun i => Value.int (k i) (f i)) = true
  | [] => rfl
  | i :: l => by
    simp only [List.map_cons, fitAll, Bool.and_eq_true]
    exact ⟨by simp [Leaf.fits], fitAll_ag k f l⟩
end Go.Proofs.YtcibajleknhklaaDoor
end
section
namespace Go
open Go.RowKit
theorem load_row_g {P : Program} {ops : Array Oper} {rest : List Oper} {o : Oper} {a : Act} {w : World} {Q : Exit → Act → World → Prop} (hw : Region.wanted o (yielded ops a.tmps) = true) (ty : TypeId) (x : Operand) (ho : o.op = .load ty x)
    (g : Nat) (hx : a.eval x = .pointer (some ⟨g, 0, none⟩)) (t : TypeId) (cs : Array Value) (fr : Nat × Nat) (d : TypeDesc) (hg : w.heap[g]? = some (.cells cs t fr))
    (hu : P.underlying ty = some d) (hd : (match d with | .struct _ | .array _ _ => true | _ => false) = true) (hi : (P.info? ty).map (·.size) = some cs.size)
    (h : wpList P ops Q rest (a.put o.dst (.agg cs)) w) : wpList P ops Q (o :: rest) a w := by
  unfold wpList
  rw [if_pos hw]
  exact .inl (wp_load_row ty x ho g hx t cs fr d hg hu hd hi h)
theorem load_mid_g {P : Program} {ops : Array Oper} {rest : List Oper} {o : Oper} {a : Act} {w : World} {Q : Exit → Act → World → Prop} (hw : Region.wanted o (yielded ops a.tmps) = true) (ty : TypeId) (x : Operand) (ho : o.op = .load ty x)
    (b f : Nat) (hx : a.eval x = .pointer (some ⟨b, f, none⟩)) (cs : List Value) (d : TypeDesc) (hc : w.rangeAt b f cs)
    (hu : P.underlying ty = some d) (hd : d.isRow = true) (hi : (P.info? ty).map (·.size) = some cs.length)
    (h : wpList P ops Q rest (a.put o.dst (.agg cs.toArray)) w) : wpList P ops Q (o :: rest) a w := by
  unfold wpList
  rw [if_pos hw]
  exact .inl (wp_load_mid ty x ho b f hx cs d hc hu hd hi h)
end Go
end
end

section
namespace Go
open Go.RowKit Go.Vec
set_option linter.unusedSimpArgs false
/-- What a book's map may hold. -/
def GoodEntries (es : List MapEntry) : Prop := ∀ e ∈ es, ∃ n k : Int, e.key = .agg #[.int .i64 n, .int .i64 k] ∧ e.val = .int .u64 (vF n k)
/-- A map's contents, and growth. -/
structure BookBy where
  es : Array MapEntry
  clock : Nat
  good : GoodEntries es.toList
  gr : Grown.By
instance : Inhabited BookBy := ⟨⟨#[], 0, fun e h => by simp at h, default⟩⟩
/-- 'w', with other contents of the map at block m, grown. -/
def World.bkd (w : World) (m : Nat) (x : BookBy) : World := { w with heap := (w.heap.setIfInBounds m (.map x.es x.clock)) ++ x.gr.objs, drawn := x.gr.drawn }
section
variable (w : World) (m : Nat) (x y : BookBy)
theorem World.bkd_block (k : Nat) (h : k < w.heap.size) (hne : m ≠ k) : (w.bkd m x).heap[k]? = w.heap[k]? := by
  show (w.heap.setIfInBounds m _ ++ x.gr.objs)[k]? = _
  rw [Array.getElem?_append_left (by simpa using h), Array.getElem?_setIfInBounds_ne hne]
theorem World.bkd_map (h : m < w.heap.size) : (w.bkd m x).heap[m]? = some (.map x.es x.clock) := by
  show (w.heap.setIfInBounds m _ ++ x.gr.objs)[m]? = _
  rw [Array.getElem?_append_left (by simpa using h), Array.getElem?_setIfInBounds_self_of_lt h]
@[simp, go_sem] theorem World.size_bkd : (w.bkd m x).heap.size = w.heap.size + x.gr.objs.size := by
  show (w.heap.setIfInBounds m _ ++ x.gr.objs).size = _
  simp
@[go_sem] theorem World.drew_bkd : (w.bkd m x).drew = w.bkd m ⟨x.es, x.clock, x.good, ⟨x.gr.objs, x.gr.drawn + 1⟩⟩ := rfl
@[go_sem] theorem World.bkd_drew : w.drew.bkd m x = w.bkd m x := rfl
@[go_sem] theorem World.grew_bkd (z : Grown.By) : (w.bkd m x).grew z = w.bkd m ⟨x.es, x.clock, x.good, ⟨x.gr.objs ++ z.objs, z.drawn⟩⟩ := by
  unfold World.bkd World.grew
  simp [Array.append_assoc]
@[go_sem] theorem World.cell?_bkd (n i : Nat) (s : Option Nat) (hn : n < w.heap.size) (hne : m ≠ n) : (w.bkd m x).cell? ⟨n, i, s⟩ = w.cell? ⟨n, i, s⟩ := by
  unfold World.cell?
  rw [World.bkd_block w m x n hn hne]
@[go_sem] theorem World.frozen?_bkd (n i : Nat) (s : Option Nat) (hn : n < w.heap.size) (hne : m ≠ n) : (w.bkd m x).frozen? ⟨n, i, s⟩ = w.frozen? ⟨n, i, s⟩ := by
  unfold World.frozen?
  rw [World.bkd_block w m x n hn hne]
@[go_sem] theorem World.shape?_bkd (n : Nat) (hn : n < w.heap.size) (hne : m ≠ n) : (w.bkd m x).shape? n = w.shape? n := by
  unfold World.shape?
  rw [World.bkd_block w m x n hn hne]
@[go_sem] theorem World.heap_bkd (n : Nat) (hn : n < w.heap.size) (hne : m ≠ n) : (w.bkd m x).heap[n]? = w.heap[n]? := World.bkd_block w m x n hn hne
@[go_sem] theorem World.setCell_bkd (n i : Nat) (s : Option Nat) (v : Value) (hn : n < w.heap.size) (hne : m ≠ n) : (w.bkd m x).setCell ⟨n, i, s⟩ v = (w.setCell ⟨n, i, s⟩ v).bkd m x := by
  unfold World.setCell World.bkd
  congr 1
  apply Array.ext_getElem?
  intro k
  simp only [Array.getElem?_modify, Array.getElem?_append, Array.size_modify, Array.size_setIfInBounds, Array.getElem?_setIfInBounds]
  by_cases hk : n = k
  · subst hk
    simp [hn, hne]
  · simp [hk]
@[go_sem] theorem World.bkd_bkd (h : m < w.heap.size) : (w.bkd m x).bkd m y = w.bkd m ⟨y.es, y.clock, y.good, ⟨x.gr.objs ++ y.gr.objs, y.gr.drawn⟩⟩ := by
  unfold World.bkd
  simp only
  congr 1
  apply Array.ext_getElem?
  intro k
  simp only [Array.getElem?_append, Array.size_append, Array.size_setIfInBounds, Array.getElem?_setIfInBounds]
  grind
end
@[go_sem] theorem World.heap_alloc_past (w : World) (o : Obj) (k : Nat) (h : k < w.heap.size) : (w.alloc o).heap[k]? = w.heap[k]? := Below.heap_alloc w o k h
/-- Of what was there nothing has turned but the map at block m, which is a good one. -/
structure BkInv (m : Nat) (w w' : World) : Prop where
  os : w'.os = w.os
  tape : w'.tape = w.tape
  output : w'.output = w.output
  size : w.heap.size ≤ w'.heap.size
  lt : m < w.heap.size
  map : ∃ es clk, w'.heap[m]? = some (.map es clk) ∧ GoodEntries es.toList
  block : ∀ k, k < w.heap.size → m ≠ k → w'.heap[k]? = w.heap[k]?
theorem BkInv.below {m : Nat} {w a b : World} (h : BkInv m w a) (hb : Below w.heap.size a b) : BkInv m w b := by
  obtain ⟨es, clk, h1, h2⟩ := h.map
  exact ⟨hb.os.trans h.os, hb.tape.trans h.tape, hb.output.trans h.output, Nat.le_trans h.size hb.size, h.lt, ⟨es, clk, (hb.block m h.lt).trans h1, h2⟩, fun k hk hne => (hb.block k hk).trans (h.block k hk hne)⟩
theorem BkInv.alloc {m : Nat} {w a : World} (h : BkInv m w a) (o : Obj) : BkInv m w (a.alloc o) := h.below ((Below.refl _ _).alloc h.size o)
theorem BkInv.grew {m : Nat} {w a : World} (h : BkInv m w a) (x : Grown.By) : BkInv m w (a.grew x) := h.below (below_grew (Below.refl _ _) h.size x)
theorem BkInv.drew {m : Nat} {w a : World} (h : BkInv m w a) : BkInv m w a.drew := ⟨h.os, h.tape, h.output, h.size, h.lt, h.map, h.block⟩
theorem BkInv.drewN {m : Nat} {w a : World} (h : BkInv m w a) (n : Nat) : BkInv m w (a.drewN n) := ⟨h.os, h.tape, h.output, h.size, h.lt, h.map, h.block⟩
theorem BkInv.setCell {m : Nat} {w a : World} (h : BkInv m w a) {p : Addr} (hp : w.heap.size ≤ p.block) (u : Value) : BkInv m w (a.setCell p u) := h.below ((Below.refl _ _).setCell hp u)
theorem BkInv.bkd {m : Nat} {w a : World} (h : BkInv m w a) (x : BookBy) : BkInv m w (a.bkd m x) := by
  have hlt : m < a.heap.size := Nat.lt_of_lt_of_le h.lt h.size
  refine ⟨h.os, h.tape, h.output, ?_, h.lt, ⟨x.es, x.clock, World.bkd_map a m x hlt, x.good⟩, fun k hk hne => (World.bkd_block a m x k (Nat.lt_of_lt_of_le hk h.size) hne).trans (h.block k hk hne)⟩
  have := h.size
  simp; omega
theorem BkInv.refl {m : Nat} {w : World} {es : Array MapEntry} {clk : Nat} (h : w.heap[m]? = some (.map es clk)) (hg : GoodEntries es.toList) : BkInv m w w :=
  ⟨rfl, rfl, rfl, Nat.le_refl _, (Array.getElem?_eq_some_iff.1 h).1, ⟨es, clk, h, hg⟩, fun _ _ _ => rfl⟩
/-- A book lies at block b, its map at block m. -/
structure BookOK (T : TypeId) (b m : Nat) (w : World) : Prop where
  book : w.heap[b]? = some (.cells #[.map (some m)] T (0, 0))
  ne : m ≠ b
  map : ∃ es clk, w.heap[m]? = some (.map es clk) ∧ GoodEntries es.toList
theorem BookOK.lt_b {T : TypeId} {b m : Nat} {w : World} (h : BookOK T b m w) : b < w.heap.size := (Array.getElem?_eq_some_iff.1 h.book).1
theorem BookOK.refl {T : TypeId} {b m : Nat} {w : World} (h : BookOK T b m w) : BkInv m w w := by
  obtain ⟨es, clk, h1, h2⟩ := h.map
  exact BkInv.refl h1 h2
theorem BookOK.inv {T : TypeId} {b m : Nat} {w w' : World} (h : BookOK T b m w) (hi : BkInv m w w') : BookOK T b m w' :=
  ⟨(hi.block b h.lt_b h.ne).trans h.book, h.ne, hi.map⟩
theorem BookOK.cell {T : TypeId} {b m : Nat} {w : World} (h : BookOK T b m w) : w.cell? ⟨b, 0, none⟩ = some (.map (some m)) := by simp [World.cell?, h.book]
end Go
end

section
namespace Go.Proofs.YtcibajleknhklaaDoor
open Go.RowKit Go.BigFrame Go.Vec
set_option linter.unusedSimpArgs false
abbrev Book (b m : Nat) (w : World) : Prop := BookOK 155 b m w
end Go.Proofs.YtcibajleknhklaaDoor
end

section
namespace Go.Proofs.YtcibajleknhklaaDoor
open Go.RowKit Go.BigFrame Go.Vec Go.Cost
set_option linter.unusedSimpArgs false
theorem there_any (n : Int) (w : World) : Calls Tryd.prog 82 #[.int .i64 n] w fun e w' => e = .returned (.bool (decide (1 ≤ n ∧ n ≤ 16))) ∧ w = w' := by
  by_cases h1 : 1 ≤ n
  · by_cases h2 : n ≤ 16
    · skip
      go_enter Tryd.func82, Tryd.ntmps82
      go_wp2
      go_ret
      exact ⟨ret_bool (by first | rfl | (simp; done) | (simp; omega)), rfl⟩
    · skip
      go_enter Tryd.func82, Tryd.ntmps82
      go_wp2
      go_ret
      exact ⟨ret_bool (by first | rfl | (simp; done) | (simp; omega)), rfl⟩
  · skip
    go_enter Tryd.func82, Tryd.ntmps82
    go_wp2
    go_ret
    exact ⟨ret_bool (by first | rfl | (simp; done) | (simp; omega)), rfl⟩
section
variable {b m : Nat} {w : World}
/-- What is known behind each change of the map. -/
theorem Book.any (hB : Book b m w) (x : BookBy) : Book b m (w.bkd m x) := hB.inv (hB.refl.bkd x)
end
end Go.Proofs.YtcibajleknhklaaDoor
end

section
namespace Go.Proofs.YtcibajleknhklaaDoor
open Go.RowKit Go.BigFrame Go.Vec Go.Cost
set_option linter.unusedSimpArgs false
theorem SheetOK.cap_cell {b : Nat} {w : World} (h : SheetOK b w) (n : Nat) (hn : 1 ≤ n ∧ n ≤ 16) : w.cell? ⟨b, n, none⟩ = some (.int .i64 (cap n : Nat)) := by
  obtain ⟨cs, h1, h2⟩ := h
  have := h2.cap_done n (by omega) (by unfold ShC; omega)
  unfold capG at this
  rw [if_neg (by omega)] at this
  simp [World.cell?, h1, this]
theorem SheetOK.bits_cell {b : Nat} {w : World} (h : SheetOK b w) (n k : Nat) (hn : 1 ≤ n ∧ n ≤ 16) (hk : k ≤ cap n) : w.cell? ⟨b, 17 + n * 33 + k, none⟩ = some (.int .i64 (pays n k : Nat)) := by
  obtain ⟨cs, h1, h2⟩ := h
  have hc := cap_le32 n (by omega)
  have := h2.bits_done n k (by omega) (by omega) (by unfold ShB; omega)
  simp [World.cell?, h1, this]
theorem sheetCap_in (s : Nat) (w : World) (hS : SheetOK s w) (n : Nat) (hn : 1 ≤ n ∧ n ≤ 16) : Calls Tryd.prog 39 #[.pointer (some ⟨s, 0, none⟩), .int .i64 n] w fun e w' => e = .returned (.int .i64 (cap n : Nat)) ∧ w = w' := by
  have ht := Lib.hid (fun w => there_any n w)
  rw [decide_eq_true (by omega)] at ht
  have c1 := hS.cap_cell n hn
  have i1 : (n : Int) < 17 := by omega
  clear hS
  go_enter Tryd.func39, Tryd.ntmps39
  go_wp2_with (go_at_call 82; refine (ht.out _).mono ?_; rintro e w' ⟨rfl, rfl⟩)
  go_ret
  exact ⟨rfl, rfl⟩
theorem sheetCap (s : Nat) (w : World) (hS : SheetOK s w) (n : Int) : Calls Tryd.prog 39 #[.pointer (some ⟨s, 0, none⟩), .int .i64 n] w fun e w' => e = .returned (.int .i64 (capF n)) ∧ w = w' := by
  by_cases hn : 1 ≤ n ∧ n ≤ 16
  · obtain ⟨N, rfl⟩ := Int.eq_ofNat_of_zero_le (show 0 ≤ n by omega)
    rw [capF_in _ hn]
    exact sheetCap_in s w hS N (by omega)
  · rw [capF_out n hn]
    have ht := Lib.hid (fun w => there_any n w)
    rw [decide_eq_false hn] at ht
    clear hS hn
    go_enter Tryd.func39, Tryd.ntmps39
    go_wp2_with (go_at_call 82; refine (ht.out _).mono ?_; rintro e w' ⟨rfl, rfl⟩)
    go_ret
    exact ⟨rfl, rfl⟩
theorem sheetBits_in (s : Nat) (w : World) (hS : SheetOK s w) (n k : Nat) (hn : 1 ≤ n ∧ n ≤ 16) (hk : k ≤ cap n) : Calls Tryd.prog 37 #[.pointer (some ⟨s, 0, none⟩), .int .i64 n, .int .i64 k] w fun e w' => e = .returned (.int .i64 (pays n k : Nat)) ∧ w = w' := by
  have ht := Lib.hid (sheetCap_in s w hS n hn)
  have c1 := hS.bits_cell n k hn hk
  have c32 := cap_le32 n (by omega)
  have i1 : (n : Int) < 17 := by omega
  have i2 : (k : Int) < 33 := by omega
  have i3 : ¬(cap n : Int) < k := by omega
  clear hS
  go_enter Tryd.func37, Tryd.ntmps37
  go_wp2_with (go_at_call 39; refine ht.out.mono ?_; rintro e w' ⟨rfl, rfl⟩)
  go_ret
  exact ⟨rfl, rfl⟩
theorem sheetBits (s : Nat) (w : World) (hS : SheetOK s w) (n k : Int) : Calls Tryd.prog 37 #[.pointer (some ⟨s, 0, none⟩), .int .i64 n, .int .i64 k] w fun e w' => e = .returned (.int .i64 (bitsF n k)) ∧ w = w' := by
  by_cases h0 : 0 ≤ k
  · by_cases h1 : k ≤ capF n
    · have hp := capF_pos n k h0 h1
      obtain ⟨N, rfl⟩ := Int.eq_ofNat_of_zero_le (show 0 ≤ n by omega)
      obtain ⟨K, rfl⟩ := Int.eq_ofNat_of_zero_le h0
      rw [show bitsF N K = (pays N K : Nat) from by unfold bitsF; rw [if_pos ⟨h0, h1⟩]; simp]
      rw [capF_in _ (by omega)] at h1
      exact sheetBits_in s w hS N K (by omega) (by simpa using h1)
    · have E := Lib.hid (show bitsF n k = -1 from by unfold bitsF; rw [if_neg (by omega)])
      have ht := Lib.hid (sheetCap s w hS n)
      clear hS
      go_enter Tryd.func37, Tryd.ntmps37
      go_wp2_with (go_at_call 39; refine ht.out.mono ?_; rintro e w' ⟨rfl, rfl⟩)
      go_ret
      exact ⟨ret_int E.out.symm, rfl⟩
  · have E := Lib.hid (show bitsF n k = -1 from by unfold bitsF; rw [if_neg (by omega)])
    clear hS
    go_enter Tryd.func37, Tryd.ntmps37
    go_wp2
    go_ret
    exact ⟨ret_int E.out.symm, rfl⟩
end Go.Proofs.YtcibajleknhklaaDoor
end

section
namespace Go.Proofs.YtcibajleknhklaaDoor
open Go.RowKit Go.BigFrame
set_option linter.unusedSimpArgs false
abbrev RightP (s c : Int) : Prop := 0 ≤ s ∧ s < 3 ∧ 1 ≤ c ∧ c ≤ 2
def bandsF (s c : Int) : Int := if RightP s c then 3 + s else 0
def widL : List Int := [2, 2, 4, 8, 16]
def widthF (s c b : Int) : Int := if 0 ≤ b ∧ b < bandsF s c then widL.getD b.toNat 0 else 0
def slopeF (s c t b : Int) : Int := if widthF s c b = 0 then 0 else 64 / widthF s c b + (8 - min (max t 0) 7) * b
theorem bandsF_bd (s c : Int) : 0 ≤ bandsF s c ∧ bandsF s c ≤ 5 := by
  unfold bandsF
  split
  · omega
  · omega
theorem widthF_bd (s c b : Int) : widthF s c b = 0 ∨ (0 ≤ b ∧ b < 5 ∧ b < bandsF s c ∧ 2 ≤ widthF s c b ∧ widthF s c b ≤ 16) := by
  have hb := bandsF_bd s c
  unfold widthF
  split
  · rename_i h
    right
    have h5 : ∀ i : Fin 5, 2 ≤ widL.getD i.val 0 ∧ widL.getD i.val 0 ≤ 16 := by decide
    have := h5 ⟨b.toNat, by omega⟩
    simp only at this
    omega
  · exact .inl rfl
abbrev WidthW (w : World) : Prop := TabW 1 5 .i64 widL w
theorem WidthW.at {w : World} (h : WidthW w) (j : Int) (h0 : 0 ≤ j) (h1 : j < 5) : w.cell? ⟨1, j.toNat, none⟩ = some (.int .i64 (widL.getD j.toNat 0)) := h.2 j.toNat (by omega)
theorem modeRight (s c : Int) (w : World) : Calls Tryd.prog 86 #[.agg #[.int .i64 s, .int .i64 c]] w fun e w' => e = .returned (.bool (decide (RightP s c))) ∧ Below w.heap.size w w' := by
  by_cases h0 : 0 ≤ s
  · skip
    by_cases h1 : s < 3
    · skip
      by_cases h2 : 1 ≤ c
      · skip
        by_cases h3 : c ≤ 2
        · skip
          go_enter Tryd.func86, Tryd.ntmps86
          go_wp2
          go_ret
          exact ⟨ret_bool (by first | rfl | (simp; done) | (simp; omega)), by (repeat' (first | (with_reducible exact Below.refl _ _) | (with_reducible assumption) | (with_reducible refine Below.alloc ?_ ?_ _) | (with_reducible refine below_grew ?_ ?_ _) | (with_reducible refine Below.setCell ?_ ?_ _) | (with_reducible refine Below.drew ?_) | (with_reducible refine below_drewN ?_ _) | omega | (simp; done) | (simp; omega)))⟩
        · skip
          go_enter Tryd.func86, Tryd.ntmps86
          go_wp2
          go_ret
          exact ⟨ret_bool (by first | rfl | (simp; done) | (simp; omega)), by (repeat' (first | (with_reducible exact Below.refl _ _) | (with_reducible assumption) | (with_reducible refine Below.alloc ?_ ?_ _) | (with_reducible refine below_grew ?_ ?_ _) | (with_reducible refine Below.setCell ?_ ?_ _) | (with_reducible refine Below.drew ?_) | (with_reducible refine below_drewN ?_ _) | omega | (simp; done) | (simp; omega)))⟩
      · skip
        go_enter Tryd.func86, Tryd.ntmps86
        go_wp2
        go_ret
        exact ⟨ret_bool (by first | rfl | (simp; done) | (simp; omega)), by (repeat' (first | (with_reducible exact Below.refl _ _) | (with_reducible assumption) | (with_reducible refine Below.alloc ?_ ?_ _) | (with_reducible refine below_grew ?_ ?_ _) | (with_reducible refine Below.setCell ?_ ?_ _) | (with_reducible refine Below.drew ?_) | (with_reducible refine below_drewN ?_ _) | omega | (simp; done) | (simp; omega)))⟩
    · skip
      go_enter Tryd.func86, Tryd.ntmps86
      go_wp2
      go_ret
      exact ⟨ret_bool (by first | rfl | (simp; done) | (simp; omega)), by (repeat' (first | (with_reducible exact Below.refl _ _) | (with_reducible assumption) | (with_reducible refine Below.alloc ?_ ?_ _) | (with_reducible refine below_grew ?_ ?_ _) | (with_reducible refine Below.setCell ?_ ?_ _) | (with_reducible refine Below.drew ?_) | (with_reducible refine below_drewN ?_ _) | omega | (simp; done) | (simp; omega)))⟩
  · skip
    go_enter Tryd.func86, Tryd.ntmps86
    go_wp2
    go_ret
    exact ⟨ret_bool (by first | rfl | (simp; done) | (simp; omega)), by (repeat' (first | (with_reducible exact Below.refl _ _) | (with_reducible assumption) | (with_reducible refine Below.alloc ?_ ?_ _) | (with_reducible refine below_grew ?_ ?_ _) | (with_reducible refine Below.setCell ?_ ?_ _) | (with_reducible refine Below.drew ?_) | (with_reducible refine below_drewN ?_ _) | omega | (simp; done) | (simp; omega)))⟩
theorem modeBands (s c : Int) (w : World) : Calls Tryd.prog 53 #[.agg #[.int .i64 s, .int .i64 c]] w fun e w' => e = .returned (.int .i64 (bandsF s c)) ∧ Below w.heap.size w w' := by
  have hr := Lib.hid (fun w => modeRight s c w)
  by_cases h : RightP s c
  · have E := Lib.hid (show bandsF s c = 3 + s from by unfold bandsF; rw [if_pos h])
    rw [decide_eq_true h] at hr
    obtain ⟨h1, h2, _, _⟩ := h
    go_enter Tryd.func53, Tryd.ntmps53
    go_wp2_with (go_at_call 86; refine (hr.out _).mono ?_; rintro e w' ⟨rfl, hb1⟩; obtain ⟨x1, rfl⟩ := below_as_grew hb1; clear hb1)
    go_ret
    exact ⟨ret_int E.out.symm, by (repeat' (first | (with_reducible exact Below.refl _ _) | (with_reducible assumption) | (with_reducible refine Below.alloc ?_ ?_ _) | (with_reducible refine below_grew ?_ ?_ _) | (with_reducible refine Below.setCell ?_ ?_ _) | (with_reducible refine Below.drew ?_) | (with_reducible refine below_drewN ?_ _) | omega | (simp; done) | (simp; omega)))⟩
  · have E := Lib.hid (show bandsF s c = 0 from by unfold bandsF; rw [if_neg h])
    rw [decide_eq_false h] at hr
    clear h
    go_enter Tryd.func53, Tryd.ntmps53
    go_wp2_with (go_at_call 86; refine (hr.out _).mono ?_; rintro e w' ⟨rfl, hb1⟩; obtain ⟨x1, rfl⟩ := below_as_grew hb1; clear hb1)
    go_ret
    exact ⟨ret_int E.out.symm, by (repeat' (first | (with_reducible exact Below.refl _ _) | (with_reducible assumption) | (with_reducible refine Below.alloc ?_ ?_ _) | (with_reducible refine below_grew ?_ ?_ _) | (with_reducible refine Below.setCell ?_ ?_ _) | (with_reducible refine Below.drew ?_) | (with_reducible refine below_drewN ?_ _) | omega | (simp; done) | (simp; omega)))⟩
theorem modeHas (s c b : Int) (w : World) : Calls Tryd.prog 136 #[.agg #[.int .i64 s, .int .i64 c], .int .i64 b] w fun e w' => e = .returned (.bool (decide (0 ≤ b ∧ b < bandsF s c))) ∧ Below w.heap.size w w' := by
  have hb := Lib.hid (fun w => modeBands s c w)
  by_cases h : 0 ≤ b
  · by_cases h2 : b < bandsF s c
    · skip
      go_enter Tryd.func136, Tryd.ntmps136
      go_wp2_with (go_at_call 53; refine (hb.out _).mono ?_; rintro e w' ⟨rfl, hb1⟩; obtain ⟨x1, rfl⟩ := below_as_grew hb1; clear hb1)
      go_ret
      exact ⟨ret_bool (by first | rfl | (simp; done) | (simp; omega)), by (repeat' (first | (with_reducible exact Below.refl _ _) | (with_reducible assumption) | (with_reducible refine Below.alloc ?_ ?_ _) | (with_reducible refine below_grew ?_ ?_ _) | (with_reducible refine Below.setCell ?_ ?_ _) | (with_reducible refine Below.drew ?_) | (with_reducible refine below_drewN ?_ _) | omega | (simp; done) | (simp; omega)))⟩
    · skip
      go_enter Tryd.func136, Tryd.ntmps136
      go_wp2_with (go_at_call 53; refine (hb.out _).mono ?_; rintro e w' ⟨rfl, hb1⟩; obtain ⟨x1, rfl⟩ := below_as_grew hb1; clear hb1)
      go_ret
      exact ⟨ret_bool (by first | rfl | (simp; done) | (simp; omega)), by (repeat' (first | (with_reducible exact Below.refl _ _) | (with_reducible assumption) | (with_reducible refine Below.alloc ?_ ?_ _) | (with_reducible refine below_grew ?_ ?_ _) | (with_reducible refine Below.setCell ?_ ?_ _) | (with_reducible refine Below.drew ?_) | (with_reducible refine below_drewN ?_ _) | omega | (simp; done) | (simp; omega)))⟩
  · skip
    go_enter Tryd.func136, Tryd.ntmps136
    go_wp2
    go_ret
    exact ⟨ret_bool (by first | rfl | (simp; done) | (simp; omega)), by (repeat' (first | (with_reducible exact Below.refl _ _) | (with_reducible assumption) | (with_reducible refine Below.alloc ?_ ?_ _) | (with_reducible refine below_grew ?_ ?_ _) | (with_reducible refine Below.setCell ?_ ?_ _) | (with_reducible refine Below.drew ?_) | (with_reducible refine below_drewN ?_ _) | omega | (simp; done) | (simp; omega)))⟩
theorem modeWidth (s c b : Int) (w : World) (hT : WidthW w) : Calls Tryd.prog 114 #[.agg #[.int .i64 s, .int .i64 c], .int .i64 b] w fun e w' => e = .returned (.int .i64 (widthF s c b)) ∧ Below w.heap.size w w' := by
  have hh := Lib.hid (fun w => modeHas s c b w)
  have hbd := bandsF_bd s c
  by_cases h : 0 ≤ b ∧ b < bandsF s c
  · have E := Lib.hid (show widthF s c b = widL.getD b.toNat 0 from by unfold widthF; rw [if_pos h])
    have hc := hT.at b h.1 (by omega)
    have hg := hT.1
    generalize widL.getD b.toNat 0 = x at *
    rw [decide_eq_true h] at hh
    obtain ⟨h1, h2⟩ := h
    have h5 : b < 5 := by omega
    have hg0 : w.heap.size ≠ 0 := by omega
    have hg1 : 0 < w.heap.size := by omega
    clear hT hbd h2
    go_enter Tryd.func114, Tryd.ntmps114
    go_wp2_with (go_at_call 136; refine (hh.out _).mono ?_; rintro e w' ⟨rfl, hb1⟩; obtain ⟨x1, rfl⟩ := below_as_grew hb1; clear hb1)
    go_ret
    exact ⟨ret_int E.out.symm, by (repeat' (first | (with_reducible exact Below.refl _ _) | (with_reducible assumption) | (with_reducible refine Below.alloc ?_ ?_ _) | (with_reducible refine below_grew ?_ ?_ _) | (with_reducible refine Below.setCell ?_ ?_ _) | (with_reducible refine Below.drew ?_) | (with_reducible refine below_drewN ?_ _) | omega | (simp; done) | (simp; omega)))⟩
  · have E := Lib.hid (show widthF s c b = 0 from by unfold widthF; rw [if_neg h])
    rw [decide_eq_false h] at hh
    clear h hT hbd
    go_enter Tryd.func114, Tryd.ntmps114
    go_wp2_with (go_at_call 136; refine (hh.out _).mono ?_; rintro e w' ⟨rfl, hb1⟩; obtain ⟨x1, rfl⟩ := below_as_grew hb1; clear hb1)
    go_ret
    exact ⟨ret_int E.out.symm, by (repeat' (first | (with_reducible exact Below.refl _ _) | (with_reducible assumption) | (with_reducible refine Below.alloc ?_ ?_ _) | (with_reducible refine below_grew ?_ ?_ _) | (with_reducible refine Below.setCell ?_ ?_ _) | (with_reducible refine Below.drew ?_) | (with_reducible refine below_drewN ?_ _) | omega | (simp; done) | (simp; omega)))⟩
end Go.Proofs.YtcibajleknhklaaDoor
end

section
namespace Go.Proofs.YtcibajleknhklaaDoor
open Go.RowKit Go.BigFrame
set_option linter.unusedSimpArgs false
theorem quo64 (x : Int) (h : 2 ≤ x) : 0 ≤ 64 / x ∧ 64 / x ≤ 32 := by
  refine ⟨Int.ediv_nonneg (by omega) (by omega), ?_⟩
  have h1 : 64 / x < 33 := Int.ediv_lt_of_lt_mul (by omega) (by omega)
  omega
theorem slope_any (s c t b : Int) (w : World) (hT : WidthW w) : Calls Tryd.prog 74 #[.agg #[.int .i64 s, .int .i64 c], .int .i64 t, .int .i64 b] w fun e w' => e = .returned (.int .i64 (slopeF s c t b)) ∧ Below w.heap.size w w' := by
  have hw := Lib.hid (fun w hT => modeWidth s c b w hT)
  have HT := Lib.hid hT
  have hg := hT.1
  rcases widthF_bd s c b with h0 | ⟨b0, b5, _, h2, h16⟩
  · have E := Lib.hid (show slopeF s c t b = 0 from by unfold slopeF; rw [if_pos h0])
    rw [h0] at hw
    clear hT
    go_enter Tryd.func74, Tryd.ntmps74
    go_wp2_with (go_at_call 114; refine (hw.out _ (HT.out.below (by (repeat' (first | (with_reducible exact Below.refl _ _) | (with_reducible assumption) | (with_reducible refine Below.alloc ?_ ?_ _) | (with_reducible refine below_grew ?_ ?_ _) | (with_reducible refine Below.setCell ?_ ?_ _) | (with_reducible refine Below.drew ?_) | (with_reducible refine below_drewN ?_ _) | omega | (simp; done) | (simp; omega)))))).mono ?_; rintro e w' ⟨rfl, hb1⟩; obtain ⟨x1, rfl⟩ := below_as_grew hb1; clear hb1)
    go_ret
    exact ⟨ret_int E.out.symm, by (repeat' (first | (with_reducible exact Below.refl _ _) | (with_reducible assumption) | (with_reducible refine Below.alloc ?_ ?_ _) | (with_reducible refine below_grew ?_ ?_ _) | (with_reducible refine Below.setCell ?_ ?_ _) | (with_reducible refine Below.drew ?_) | (with_reducible refine below_drewN ?_ _) | omega | (simp; done) | (simp; omega)))⟩
  · have hq := quo64 _ h2
    have hne : (widthF s c b == 0) = false := by rw [beq_eq_false_iff_ne]; omega
    have hne' : ¬widthF s c b = 0 := by omega
    clear hT
    have hb : b = 0 ∨ b = 1 ∨ b = 2 ∨ b = 3 ∨ b = 4 := by omega
    have E := Lib.hid (show slopeF s c t b = 64 / widthF s c b + (8 - min (max t 0) 7) * b from by unfold slopeF; rw [if_neg hne'])
    generalize widthF s c b = x at *
    rcases hb with rfl | rfl | rfl | rfl | rfl
    all_goals
      go_enter Tryd.func74, Tryd.ntmps74
      go_wp2_with (go_at_call 114; refine (hw.out _ (HT.out.below (by (repeat' (first | (with_reducible exact Below.refl _ _) | (with_reducible assumption) | (with_reducible refine Below.alloc ?_ ?_ _) | (with_reducible refine below_grew ?_ ?_ _) | (with_reducible refine Below.setCell ?_ ?_ _) | (with_reducible refine Below.drew ?_) | (with_reducible refine below_drewN ?_ _) | omega | (simp; done) | (simp; omega)))))).mono ?_; rintro e w' ⟨rfl, hb1⟩; obtain ⟨x1, rfl⟩ := below_as_grew hb1; clear hb1)
      go_ret
      exact ⟨ret_int (by first | (rw [E.out]; done) | (rw [E.out]; omega)), by (repeat' (first | (with_reducible exact Below.refl _ _) | (with_reducible assumption) | (with_reducible refine Below.alloc ?_ ?_ _) | (with_reducible refine below_grew ?_ ?_ _) | (with_reducible refine Below.setCell ?_ ?_ _) | (with_reducible refine Below.drew ?_) | (with_reducible refine below_drewN ?_ _) | omega | (simp; done) | (simp; omega)))⟩
end Go.Proofs.YtcibajleknhklaaDoor
end

section
namespace Go.Proofs.YtcibajleknhklaaDoor
open Go.RowKit Go.BigFrame Go.Vec Go.Cost
set_option linter.unusedSimpArgs false
set_option linter.unusedVariables false
abbrev A5 := 55
abbrev i64s : Nat → IntKind := fun _ => .i64
/-- A job: its share, its sheet, its mode, its slopes. -/
structure JobAt (jb hb sh : Nat) (s c : Int) (sl : Nat → Int) (w : World) : Prop where
  job : w.heap[jb]? = some (.cells #[.pointer (some ⟨hb, 0, none⟩), .int .i64 s, .int .i64 c, .int .i64 (sl 0), .int .i64 (sl 1), .int .i64 (sl 2), .int .i64 (sl 3), .int .i64 (sl 4)] 147 (0, 0))
  sha : w.heap[hb]? = some (.cells #[.pointer (some ⟨sh, 0, none⟩)] 77 (0, 0))
  sheet : SheetOK sh w
  wid : WidthW w
theorem sheet_lt {b : Nat} {w : World} (h : SheetOK b w) : b < w.heap.size := by
  obtain ⟨cs, h, _⟩ := h
  exact (Array.getElem?_eq_some_iff.1 h).1
theorem WidthW.below' {w w' : World} (h : WidthW w) (hb : Below w.heap.size w w') : WidthW w' := ⟨Nat.lt_of_lt_of_le h.1 hb.size, fun j hj => (World.cell?_of_block (w := w) (hb.block _ h.1)).trans (h.2 j hj)⟩
theorem JobAt.keep {jb hb sh s c sl} {w w' : World} (h : JobAt jb hb sh s c sl w) (hb' : Below w.heap.size w w') : JobAt jb hb sh s c sl w' :=
  ⟨(hb'.block _ (Array.getElem?_eq_some_iff.1 h.job).1).trans h.job, (hb'.block _ (Array.getElem?_eq_some_iff.1 h.sha).1).trans h.sha, h.sheet.below (sheet_lt h.sheet) hb', h.wid.below' hb'⟩
theorem JobAt.c0 {jb hb sh s c sl} {w : World} (h : JobAt jb hb sh s c sl w) : w.cell? ⟨jb, 0, none⟩ = some (.pointer (some ⟨hb, 0, none⟩)) := (block_facts h.job).1 0
theorem JobAt.c1 {jb hb sh s c sl} {w : World} (h : JobAt jb hb sh s c sl w) : w.cell? ⟨jb, 1, none⟩ = some (.int .i64 s) := (block_facts h.job).1 1
theorem JobAt.c2 {jb hb sh s c sl} {w : World} (h : JobAt jb hb sh s c sl w) : w.cell? ⟨jb, 2, none⟩ = some (.int .i64 c) := (block_facts h.job).1 2
theorem JobAt.cs {jb hb sh s c sl} {w : World} (h : JobAt jb hb sh s c sl w) (b : Nat) (hb5 : b < 5) : w.cell? ⟨jb, 3 + b, none⟩ = some (.int .i64 (sl b)) := by
  rw [(block_facts h.job).1 (3 + b)]
  rcases (show b = 0 ∨ b = 1 ∨ b = 2 ∨ b = 3 ∨ b = 4 by omega) with h | h | h | h | h <;> subst h <;> rfl
theorem JobAt.h0 {jb hb sh s c sl} {w : World} (h : JobAt jb hb sh s c sl w) : w.cell? ⟨hb, 0, none⟩ = some (.pointer (some ⟨sh, 0, none⟩)) := (block_facts h.sha).1 0
theorem JobAt.lt {jb hb sh s c sl} {w : World} (h : JobAt jb hb sh s c sl w) : jb < w.heap.size ∧ hb < w.heap.size := ⟨(block_facts h.job).2.2, (block_facts h.sha).2.2⟩
theorem capB (sh : Nat) (n : Int) (w : World) (h : SheetOK sh w) : Calls Tryd.prog 39 #[.pointer (some ⟨sh, 0, none⟩), .int .i64 n] w fun e w' => e = .returned (.int .i64 (capF n)) ∧ Below w.heap.size w w' :=
  (sheetCap sh w h n).mono fun e w' ⟨h1, h2⟩ => ⟨h1, by subst h2; exact Below.refl _ _⟩
theorem bitsB (sh : Nat) (n k : Int) (w : World) (h : SheetOK sh w) : Calls Tryd.prog 37 #[.pointer (some ⟨sh, 0, none⟩), .int .i64 n, .int .i64 k] w fun e w' => e = .returned (.int .i64 (bitsF n k)) ∧ Below w.heap.size w w' :=
  (sheetBits sh w h n k).mono fun e w' ⟨h1, h2⟩ => ⟨h1, by subst h2; exact Below.refl _ _⟩
section
variable {P : Program} {ops : Array Oper} {rest : List Oper} {o : Oper} {a : Act} {w : World} {Q : Exit → Act → World → Prop}
theorem gate_load (ty : TypeId) (x : Operand) (ho : o.op = .load ty x) (h : wpList P ops Q (o :: rest) a w) : wpList P ops Q (o :: rest) a w := h
end
/-- All pulses up to a level. -/
def atF (s c : Int) (sl : Nat → Int) (lv : Int) (b : Nat) : Int := min (lv / sl b) (capF (widthF s c b))
def atTo (s c : Int) (sl : Nat → Int) (lv : Int) (n : Nat) : Nat → Int := fun b => if b < n then atF s c sl lv b else 0
/-- The call's frame: the result, the pulses. -/
structure JA (w : World) (B jb hb sh : Nat) (s c : Int) (sl f : Nat → Int) (W : World) : Prop where
  below : Below B w W
  rb : Bx B A5 i64s 5 (fun _ => 0) W
  kb : Bx (B + 1) A5 i64s 5 f W
  job : JobAt jb hb sh s c sl W
  jl : jb < B ∧ hb < B ∧ sh < B
  gl : 1 < B
theorem JA.keep {w B jb hb sh s c sl f} {W W' : World} (h : JA w B jb hb sh s c sl f W) (hb' : Below W.heap.size W W') : JA w B jb hb sh s c sl f W' :=
  ⟨h.below.trans (hb'.mono (by have := (block_facts h.rb).2.2; omega)), h.rb.keep hb', h.kb.keep hb', h.job.keep hb', h.jl, h.gl⟩
theorem JobAt.only {jb hb sh s c sl} {q : Nat} {w w' : World} (h : JobAt jb hb sh s c sl w) (ho : Only q w w') (hj : jb < q) (hh : hb < q) (hs : sh < q) (hg : 1 < q) : JobAt jb hb sh s c sl w' := by
  have hB : Below q w w' := ho.below (Below.refl q w) (Nat.le_refl _)
  exact ⟨(ho.block _ (by omega)).trans h.job, (ho.block _ (by omega)).trans h.sha, h.sheet.below hs hB, ⟨by rw [ho.size]; exact h.wid.1, fun j hj => (World.cell?_of_block (w := w) (ho.block 1 (by omega))).trans (h.wid.2 j hj)⟩⟩
theorem JA.onlyK {w B jb hb sh s c sl f} {f' : Nat → Int} {W W' : World} (h : JA w B jb hb sh s c sl f W) (ho : Only (B + 1) W W') (hf : Bx (B + 1) A5 i64s 5 f' W') : JA w B jb hb sh s c sl f' W' := by
  have h1 := h.jl
  have h2 := h.gl
  exact ⟨ho.below h.below (by omega), (ho.block _ (by omega)).trans h.rb, hf, h.job.only ho (by omega) (by omega) (by omega) (by omega), h1, h2⟩
theorem info5 : (Tryd.prog.info? A5).map (·.size) = some 5 := by kernel_rfl
theorem info5_ag (f : Nat → Int) : (Tryd.prog.info? A5).map (·.size) = some (ag i64s 5 f).size := by rw [ag_size]; exact info5
set_option maxHeartbeats 2000000 in
set_option maxRecDepth 100000 in
theorem shAt (jb hb sh : Nat) (s c : Int) (sl : Nat → Int) (nb : Nat) (hnb : bandsF s c = nb) (hsl : ∀ b, b < nb → 1 ≤ sl b ∧ sl b ≤ 64) (lv : Int) (hlv : 0 ≤ lv ∧ lv ≤ 100000) (w : World) (h : JobAt jb hb sh s c sl w) :
    Calls Tryd.prog 77 #[.pointer (some ⟨jb, 0, none⟩), .int .i64 lv] w fun e w' => e = .returned (.agg (ag i64s 5 (atTo s c sl lv nb))) ∧ Below w.heap.size w w' := by
  have HJ := Lib.hid h
  have hbn := Lib.hid (fun w => modeBands s c w)
  rw [hnb] at hbn
  have hnb5 : nb ≤ 5 := by have := bandsF_bd s c; omega
  have hwd := Lib.hid (fun (b : Int) w hT => modeWidth s c b w hT)
  have hcp := Lib.hid (fun n w hS => capB sh n w hS)
  have HSL := Lib.hid hsl
  have HNB := Lib.hid hnb
  have hlt := h.lt
  clear h hsl hnb
  go_enter Tryd.func77, Tryd.ntmps77
  go_upto_region 2 with fail
  refine cut_world (fun W => JA w w.heap.size jb hb sh s c sl (fun _ => 0) W) ⟨by (repeat' (first | (with_reducible exact Below.refl _ _) | (with_reducible assumption) | (with_reducible refine Below.alloc ?_ ?_ _) | (with_reducible refine below_grew ?_ ?_ _) | (with_reducible refine Below.setCell ?_ ?_ _) | (with_reducible refine Below.drew ?_) | (with_reducible refine below_drewN ?_ _) | omega | (simp; done) | (simp; omega))), alloc_two _ _ _, alloc_secondOf _ _ _, HJ.out.keep (by (repeat' (first | (with_reducible exact Below.refl _ _) | (with_reducible assumption) | (with_reducible refine Below.alloc ?_ ?_ _) | (with_reducible refine below_grew ?_ ?_ _) | (with_reducible refine Below.setCell ?_ ?_ _) | (with_reducible refine Below.drew ?_) | (with_reducible refine below_drewN ?_ _) | omega | (simp; done) | (simp; omega)))), ⟨hlt.1, hlt.2, sheet_lt HJ.out.sheet⟩, HJ.out.wid.1⟩ ?_
  intro V hV
  generalize hBd : w.heap.size = B at *
  have HBd := Lib.hid hBd
  have HV := Lib.hid hV
  have hj1 := hV.job.c1
  have hj2 := hV.job.c2
  have hjl := hV.job.lt
  clear hBd hV hlt
  go_wp2_with (go_at_call 53; refine (hbn.out _).mono ?_; rintro e wn ⟨rfl, hbb⟩; have HV2 := Lib.hid (HV.out.keep hbb); clear hbb)
  clear hj1 hj2 hjl HV HJ
  go_loopw [6, 12] (fun v6 cnt wr => ∃ b : Nat, b ≤ nb ∧ cnt = .int .i64 b ∧ JA w B jb hb sh s c sl (atTo s c sl lv b) wr) (fun _ cnt _ => nb - (intOf cnt).toNat)
  case atStart => exact ⟨0, by omega, rfl, by have := HV2.out; rwa [show (fun _ => (0 : Int)) = atTo s c sl lv 0 from by funext j; unfold atTo; rw [if_neg (by omega)]] at this⟩
  case round =>
    clear HV2
    obtain ⟨b, hbl, rfl, hL⟩ := hrel
    have HL := Lib.hid hL
    have hb0 : (0 : Int) ≤ b := by omega
    have hjl := hL.job.lt
    have hj0 := hL.job.c0
    have hj1 := hL.job.c1
    have hj2 := hL.job.c2
    have hh0 := hL.job.h0
    clear hL
    by_cases hlt : b < nb
    · have hlt' : (b : Int) < nb := by omega
      have hb5 : (b : Int) < 5 := by omega
      have hjs := HL.out.job.cs b (by omega)
      have hq := HSL.out b hlt
      obtain ⟨q, hqe⟩ : ∃ q, sl b = q := ⟨_, rfl⟩
      rw [hqe] at hjs hq
      have HQE := Lib.hid hqe
      have hq0 : ¬ q = 0 := by omega
      have hq00 : (0 : Int) ≤ q := by omega
      have hlv0 : (0 : Int) ≤ lv := hlv.1
      have hkf := (block_facts HL.out.kb).2.1 b
      have hkc := ag_cell HL.out.kb b (by omega)
      clear hqe hlt
      go_upto_region 5 with fail
      first | refine wp_region_grew2 25 (by kernel_rfl) (by kernel_rfl) ?_ | refine wp_region_grew 25 (by kernel_rfl) (by kernel_rfl) ?_
      simp only [List.take_succ_cons, List.take_zero, List.drop_succ_cons, List.drop_zero]
      repeat (go_big_quiet_step (first | (go_at_call 114; exact Calls.grew_of (hwd.out _ _ (HL.out.keep (by (repeat' (first | (with_reducible exact Below.refl _ _) | (with_reducible assumption) | (with_reducible refine Below.alloc ?_ ?_ _) | (with_reducible refine below_grew ?_ ?_ _) | (with_reducible refine Below.setCell ?_ ?_ _) | (with_reducible refine Below.drew ?_) | (with_reducible refine below_drewN ?_ _) | omega | (simp; done) | (simp; omega))))).job.wid)) | (go_at_call 39; exact Calls.grew_of (hcp.out _ _ (HL.out.keep (by (repeat' (first | (with_reducible exact Below.refl _ _) | (with_reducible assumption) | (with_reducible refine Below.alloc ?_ ?_ _) | (with_reducible refine below_grew ?_ ?_ _) | (with_reducible refine Below.setCell ?_ ?_ _) | (with_reducible refine Below.drew ?_) | (with_reducible refine below_drewN ?_ _) | omega | (simp; done) | (simp; omega))))).job.sheet))))
      refine wpQuiet_nil ?_
      rintro _ ⟨x, rfl⟩
      have hl2 := HL.out.keep (W' := wr.grew x) (by (repeat' (first | (with_reducible exact Below.refl _ _) | (with_reducible assumption) | (with_reducible refine Below.alloc ?_ ?_ _) | (with_reducible refine below_grew ?_ ?_ _) | (with_reducible refine Below.setCell ?_ ?_ _) | (with_reducible refine Below.drew ?_) | (with_reducible refine below_drewN ?_ _) | omega | (simp; done) | (simp; omega))))
      have kc2 := ag_cell hl2.kb b (by omega)
      have kf2 := (block_facts hl2.kb).2.1 b
      have HL2 := Lib.hid hl2
      clear hl2 hkf hkc hj0 hj1 hj2 hh0 hjs hq hq0 hq00 hlv0
      go_upto_region 6 with fail
      clear kc2 kf2
      refine cut_world (fun W => JA w B jb hb sh s c sl (atTo s c sl lv (b + 1)) W) (HL2.out.onlyK (only_setCell _ ⟨B + 1, b, none⟩ _) ?_) ?_
      · have h5 := ag_store HL2.out.kb b (by omega) (min (lv / q) (capF (widthF s c b)))
        have e5 : ag i64s 5 (updI (atTo s c sl lv b) b (min (lv / q) (capF (widthF s c b)))) = ag i64s 5 (atTo s c sl lv (b + 1)) := ag_ext _ _ _ _ fun j hj => by
          unfold updI atTo atF
          by_cases e : j = b
          · rw [if_pos e, if_pos (by omega), e, HQE.out]
          · rw [if_neg e]
            by_cases e2 : j < b
            · rw [if_pos e2, if_pos (by omega)]
            · rw [if_neg e2, if_neg (by omega)]
        rw [e5] at h5
        exact h5
      clear HL2 HL
      intro V5 hV5
      have HV5 := Lib.hid hV5
      clear hV5
      go_wp2_with fail
      go_roundw
      case rel => exact ⟨b + 1, by omega, rfl, HV5.out⟩
      case measure => simp [intOf]; omega
    · have hlt' : ¬ (b : Int) < nb := by omega
      obtain rfl : b = nb := by omega
      clear hlt hj0 hj1 hj2 hh0 hjl
      go_wp2_with (first | ((with_reducible refine gate_load A5 _ rfl ?_); refine load_row_g rfl A5 _ rfl (B + 1) rfl _ (ag i64s 5 (atTo s c sl lv b)) (0, 0) _ HL.out.kb Tryd.underlying55 rfl ?hin ?_; (case hin => exact info5_ag _)) | (refine wpList_store_mid rfl A5 _ _ rfl B 0 (ag i64s 5 (atTo s c sl lv b)) rfl rfl ?hth ?hin ?hon ?_; (case hth => exact there_row HL.out.rb _ (by rw [ag_size, ag_size]; exact Nat.le_refl _)); (case hin => exact info5_ag _); (case hon => exact ag_one i64s 5 _)))
      have q1 := cells_all HL.out.rb (N := 5) (ag_size _ _ _) (cs := ag i64s 5 (atTo s c sl lv b)) (ag_size _ _ _)
      have hfin : Below w.heap.size w (wr.setCells B 0 (ag i64s 5 (atTo s c sl lv b)).toList) := (only_setCells _ _ _ _).below (by rw [HBd.out]; exact HL.out.below) (by rw [HBd.out]; exact Nat.le_refl _)
      refine bodyPost_ret (v := .agg (ag i64s 5 (atTo s c sl lv b))) ?_ rfl ⟨rfl, hfin⟩
      exact results_cell_row rfl _ _ B _ _ _ _ rfl q1 Tryd.underlying55 rfl (info5_ag _)
/-- What so many bands cost. -/
def sumK (s c : Int) (k : Nat → Int) : Nat → Int
  | 0 => 0
  | b + 1 => sumK s c k b + bitsF (widthF s c b) (k b)
theorem bitsF_b (n k : Int) : -1 ≤ bitsF n k ∧ bitsF n k ≤ 200 := by
  unfold bitsF
  split
  · rename_i h
    have hp := capF_pos n k h.1 h.2
    have := pays_le ⟨n.toNat, by omega⟩ ⟨k.toNat, by omega⟩
    simp only at this
    omega
  · omega
theorem sumK_bd (s c : Int) (k : Nat → Int) : ∀ n : Nat, -(n : Int) ≤ sumK s c k n ∧ sumK s c k n ≤ 200 * n
  | 0 => by simp [sumK]
  | n + 1 => by
    have h := sumK_bd s c k n
    have h2 := bitsF_b (widthF s c n) (k n)
    simp only [sumK]
    omega
/-- The call's frame: the pulses that came. -/
structure JT (w : World) (B jb hb sh : Nat) (s c : Int) (sl k : Nat → Int) (W : World) : Prop where
  below : Below B w W
  kb : Bx B A5 i64s 5 k W
  job : JobAt jb hb sh s c sl W
theorem JT.keep {w B jb hb sh s c sl k} {W W' : World} (h : JT w B jb hb sh s c sl k W) (hb' : Below W.heap.size W W') : JT w B jb hb sh s c sl k W' :=
  ⟨h.below.trans (hb'.mono (by have := (block_facts h.kb).2.2; omega)), h.kb.keep hb', h.job.keep hb'⟩
set_option maxHeartbeats 2000000 in
set_option maxRecDepth 100000 in
theorem shTotal (jb hb sh : Nat) (s c : Int) (sl k : Nat → Int) (nb : Nat) (hnb : bandsF s c = nb) (w : World) (h : JobAt jb hb sh s c sl w) :
    Calls Tryd.prog 76 #[.pointer (some ⟨jb, 0, none⟩), .agg (ag i64s 5 k)] w fun e w' => e = .returned (.int .i64 (sumK s c k nb * c)) ∧ Below w.heap.size w w' := by
  have HJ := Lib.hid h
  have hbn := Lib.hid (fun w => modeBands s c w)
  rw [hnb] at hbn
  have hnb5 : nb ≤ 5 := by have := bandsF_bd s c; omega
  have hcc : wrap64 (sumK s c k nb * c) = sumK s c k nb * c := by
    have hbd := sumK_bd s c k nb
    by_cases hR : RightP s c
    · have hc : c = 1 ∨ c = 2 := by unfold RightP at hR; omega
      rcases hc with rfl | rfl <;> unfold wrap64 <;> omega
    · have h0 : nb = 0 := by unfold bandsF at hnb; rw [if_neg hR] at hnb; omega
      subst h0
      simp only [sumK, Int.zero_mul]
      decide +kernel
  have HCC := Lib.hid hcc
  have hwd := Lib.hid (fun (b : Int) w hT => modeWidth s c b w hT)
  have hbt := Lib.hid (fun n k w hS => bitsB sh n k w hS)
  have HNB := Lib.hid hnb
  have hlt := h.lt
  clear h hnb hcc
  go_enter Tryd.func76, Tryd.ntmps76
  go_upto_region 2 with fail
  refine cut_world (fun W => JT w w.heap.size jb hb sh s c sl k W) ⟨by (repeat' (first | (with_reducible exact Below.refl _ _) | (with_reducible assumption) | (with_reducible refine Below.alloc ?_ ?_ _) | (with_reducible refine below_grew ?_ ?_ _) | (with_reducible refine Below.setCell ?_ ?_ _) | (with_reducible refine Below.drew ?_) | (with_reducible refine below_drewN ?_ _) | omega | (simp; done) | (simp; omega))), alloc_at _ _, HJ.out.keep (by (repeat' (first | (with_reducible exact Below.refl _ _) | (with_reducible assumption) | (with_reducible refine Below.alloc ?_ ?_ _) | (with_reducible refine below_grew ?_ ?_ _) | (with_reducible refine Below.setCell ?_ ?_ _) | (with_reducible refine Below.drew ?_) | (with_reducible refine below_drewN ?_ _) | omega | (simp; done) | (simp; omega))))⟩ ?_
  intro V hV
  generalize hBd : w.heap.size = B at *
  have HBd := Lib.hid hBd
  have HV := Lib.hid hV
  have hj1 := hV.job.c1
  have hj2 := hV.job.c2
  have hjl := hV.job.lt
  clear hBd hV hlt
  go_wp2_with (go_at_call 53; refine (hbn.out _).mono ?_; rintro e wn ⟨rfl, hbb⟩; have HV2 := Lib.hid (HV.out.keep hbb); clear hbb)
  clear hj1 hj2 hjl HV HJ
  go_loopw [5, 6, 12] (fun v5 v6 cnt wr => ∃ b : Nat, b ≤ nb ∧ cnt = .int .i64 b ∧ v5 = .int .i64 (sumK s c k b) ∧ JT w B jb hb sh s c sl k wr) (fun _ _ cnt _ => nb - (intOf cnt).toNat)
  case atStart => exact ⟨0, by omega, rfl, rfl, HV2.out⟩
  case round =>
    clear HV2
    obtain ⟨b, hbl, rfl, rfl, hL⟩ := hrel
    have HL := Lib.hid hL
    have hb0 : (0 : Int) ≤ b := by omega
    have hjl := hL.job.lt
    have hj0 := hL.job.c0
    have hj1 := hL.job.c1
    have hj2 := hL.job.c2
    have hh0 := hL.job.h0
    clear hL
    by_cases hlt : b < nb
    · have hlt' : (b : Int) < nb := by omega
      have hb5 : (b : Int) < 5 := by omega
      have hkc := ag_cell HL.out.kb b (by omega)
      have hkl := (block_facts HL.out.kb).2.2
      have hs1 := sumK_bd s c k b
      have hs2 := bitsF_b (widthF s c b) (k b)
      have HNX := Lib.hid (show sumK s c k (b + 1) = sumK s c k b + bitsF (widthF s c b) (k b) from rfl)
      obtain ⟨S, hS⟩ : ∃ S, sumK s c k b = S := ⟨_, rfl⟩
      rw [hS] at hs1 HNX
      rw [hS]
      have hws : wrap64 (S + bitsF (widthF s c b) (k b)) = S + bitsF (widthF s c b) (k b) := by unfold wrap64; omega
      have HWS := Lib.hid hws
      clear hlt hS hs1 hs2 hws
      go_upto_region 5 with fail
      first | refine wp_region_grew2 19 (by kernel_rfl) (by kernel_rfl) ?_ | refine wp_region_grew 19 (by kernel_rfl) (by kernel_rfl) ?_
      simp only [List.take_succ_cons, List.take_zero, List.drop_succ_cons, List.drop_zero]
      repeat (go_big_quiet_step (first | (go_at_call 114; exact Calls.grew_of (hwd.out _ _ (HL.out.keep (by (repeat' (first | (with_reducible exact Below.refl _ _) | (with_reducible assumption) | (with_reducible refine Below.alloc ?_ ?_ _) | (with_reducible refine below_grew ?_ ?_ _) | (with_reducible refine Below.setCell ?_ ?_ _) | (with_reducible refine Below.drew ?_) | (with_reducible refine below_drewN ?_ _) | omega | (simp; done) | (simp; omega))))).job.wid)) | (go_at_call 37; exact Calls.grew_of (hbt.out _ _ _ (HL.out.keep (by (repeat' (first | (with_reducible exact Below.refl _ _) | (with_reducible assumption) | (with_reducible refine Below.alloc ?_ ?_ _) | (with_reducible refine below_grew ?_ ?_ _) | (with_reducible refine Below.setCell ?_ ?_ _) | (with_reducible refine Below.drew ?_) | (with_reducible refine below_drewN ?_ _) | omega | (simp; done) | (simp; omega))))).job.sheet))))
      refine wpQuiet_nil ?_
      rintro _ ⟨x, rfl⟩
      have HL2 := Lib.hid (HL.out.keep (W' := wr.grew x) (by (repeat' (first | (with_reducible exact Below.refl _ _) | (with_reducible assumption) | (with_reducible refine Below.alloc ?_ ?_ _) | (with_reducible refine below_grew ?_ ?_ _) | (with_reducible refine Below.setCell ?_ ?_ _) | (with_reducible refine Below.drew ?_) | (with_reducible refine below_drewN ?_ _) | omega | (simp; done) | (simp; omega)))))
      clear hj0 hj1 hj2 hh0 hkc hkl hjl HL
      rw [HWS.out]
      go_wp2_with fail
      go_roundw
      case rel => exact ⟨b + 1, by omega, rfl, by rw [HNX.out], HL2.out⟩
      case measure => simp [intOf]; omega
    · have hlt' : ¬ (b : Int) < nb := by omega
      obtain rfl : b = nb := by omega
      clear hlt
      go_upto_region 7 with fail
      clear hlt'
      go_wp2_with fail
      go_ret
      refine ⟨?_, by rw [HBd.out]; exact HL.out.below⟩
      rw [HCC.out]
      rfl
/-- A level above which there is no pulse. -/
def topTo (s c : Int) (sl : Nat → Int) : Nat → Int
  | 0 => 0
  | b + 1 => max (topTo s c sl b) (sl b * capF (widthF s c b))
theorem capF_w (s c : Int) (b nb : Nat) (hnb : bandsF s c = nb) (hb : b < nb) : 1 ≤ capF (widthF s c b) ∧ capF (widthF s c b) ≤ 32 := by
  have h := capF_bd (widthF s c b)
  have hw : widthF s c b = widL.getD b 0 := by unfold widthF; rw [if_pos ⟨by omega, by omega⟩]; simp
  have hb5 := bandsF_bd s c
  have h5 : ∀ i : Fin 5, 1 ≤ capF (widL.getD i.val 0) := by decide +kernel
  have := h5 ⟨b, by omega⟩
  rw [hw] at h ⊢
  simp only at this
  omega
theorem topTo_bd (s c : Int) (sl : Nat → Int) (nb : Nat) (hnb : bandsF s c = nb) (hsl : ∀ b, b < nb → 1 ≤ sl b ∧ sl b ≤ 64) : ∀ n : Nat, n ≤ nb → 0 ≤ topTo s c sl n ∧ topTo s c sl n ≤ 2048
  | 0, _ => by simp [topTo]
  | n + 1, h => by
    have h1 := topTo_bd s c sl nb hnb hsl n (by omega)
    have h2 := hsl n (by omega)
    have h3 := capF_w s c n nb hnb (by omega)
    have h4 : sl n * capF (widthF s c n) ≤ 64 * 32 := Int.mul_le_mul h2.2 h3.2 (by omega) (by omega)
    rw [topTo]
    omega
set_option maxHeartbeats 2000000 in
set_option maxRecDepth 100000 in
theorem shTop (jb hb sh : Nat) (s c : Int) (sl : Nat → Int) (nb : Nat) (hnb : bandsF s c = nb) (hsl : ∀ b, b < nb → 1 ≤ sl b ∧ sl b ≤ 64) (w : World) (h : JobAt jb hb sh s c sl w) :
    Calls Tryd.prog 75 #[.pointer (some ⟨jb, 0, none⟩)] w fun e w' => e = .returned (.int .i64 (topTo s c sl nb)) ∧ Below w.heap.size w w' := by
  have HJ := Lib.hid h
  have hbn := Lib.hid (fun w => modeBands s c w)
  have hnb5 : nb ≤ 5 := by have := bandsF_bd s c; omega
  have hwd := Lib.hid (fun (b : Int) w hT => modeWidth s c b w hT)
  have hcp := Lib.hid (fun n w hS => capB sh n w hS)
  have HTB := Lib.hid (topTo_bd s c sl nb hnb hsl)
  have HCW := Lib.hid (fun b hb => capF_w s c b nb hnb hb)
  have HSL := Lib.hid hsl
  rw [hnb] at hbn
  have hlt := h.lt
  have hj1 := h.c1
  have hj2 := h.c2
  clear h hnb hsl
  go_enter Tryd.func75, Tryd.ntmps75
  go_wp2_with (go_at_call 53; refine (hbn.out _).mono ?_; rintro e wn ⟨rfl, hbb⟩; have HV2 := Lib.hid (And.intro (HJ.out.keep hbb) hbb); clear hbb)
  clear hj1 hj2 hlt HJ
  go_loopw [3, 4, 10] (fun v3 v4 cnt wr => ∃ b : Nat, b ≤ nb ∧ cnt = .int .i64 b ∧ v3 = .int .i64 (topTo s c sl b) ∧ JobAt jb hb sh s c sl wr ∧ Below w.heap.size w wr) (fun _ _ cnt _ => nb - (intOf cnt).toNat)
  case atStart => exact ⟨0, by omega, rfl, rfl, HV2.out.1, HV2.out.2⟩
  case round =>
    clear HV2
    obtain ⟨b, hbl, rfl, rfl, hL, hbw⟩ := hrel
    have HL := Lib.hid hL
    have HBW := Lib.hid hbw
    have hb0 : (0 : Int) ≤ b := by omega
    have hjl := hL.lt
    have hj0 := hL.c0
    have hj1 := hL.c1
    have hj2 := hL.c2
    have hh0 := hL.h0
    clear hL hbw
    by_cases hlt : b < nb
    · have hlt' : (b : Int) < nb := by omega
      have hb5 : (b : Int) < 5 := by omega
      have hjs := HL.out.cs b (by omega)
      have h2 := HSL.out b hlt
      have h3 := HCW.out b hlt
      have HNX := Lib.hid (show topTo s c sl (b + 1) = max (topTo s c sl b) (sl b * capF (widthF s c b)) from rfl)
      obtain ⟨S, hS⟩ : ∃ S, topTo s c sl b = S := ⟨_, rfl⟩
      obtain ⟨q, hq⟩ : ∃ q, sl b = q := ⟨_, rfl⟩
      rw [hS, hq] at HNX
      rw [hq] at hjs h2
      rw [hS]
      have hws : wrap64 (q * capF (widthF s c b)) = q * capF (widthF s c b) := by
        have h4 : q * capF (widthF s c b) ≤ 64 * 32 := Int.mul_le_mul h2.2 h3.2 (by omega) (by omega)
        have h5 : 0 ≤ q * capF (widthF s c b) := Int.mul_nonneg (by omega) (by omega)
        unfold wrap64; omega
      have HWS := Lib.hid hws
      clear hlt hS hq h2 h3 hws
      go_upto_region 5 with fail
      first | refine wp_region_grew2 23 (by kernel_rfl) (by kernel_rfl) ?_ | refine wp_region_grew 23 (by kernel_rfl) (by kernel_rfl) ?_
      simp only [List.take_succ_cons, List.take_zero, List.drop_succ_cons, List.drop_zero]
      repeat (go_big_quiet_step (first | (go_at_call 114; exact Calls.grew_of (hwd.out _ _ (HL.out.keep (by (repeat' (first | (with_reducible exact Below.refl _ _) | (with_reducible assumption) | (with_reducible refine Below.alloc ?_ ?_ _) | (with_reducible refine below_grew ?_ ?_ _) | (with_reducible refine Below.setCell ?_ ?_ _) | (with_reducible refine Below.drew ?_) | (with_reducible refine below_drewN ?_ _) | omega | (simp; done) | (simp; omega))))).wid)) | (go_at_call 39; exact Calls.grew_of (hcp.out _ _ (HL.out.keep (by (repeat' (first | (with_reducible exact Below.refl _ _) | (with_reducible assumption) | (with_reducible refine Below.alloc ?_ ?_ _) | (with_reducible refine below_grew ?_ ?_ _) | (with_reducible refine Below.setCell ?_ ?_ _) | (with_reducible refine Below.drew ?_) | (with_reducible refine below_drewN ?_ _) | omega | (simp; done) | (simp; omega))))).sheet))))
      refine wpQuiet_nil ?_
      rintro _ ⟨x, rfl⟩
      have HL2 := Lib.hid (HL.out.keep (w' := wr.grew x) (by (repeat' (first | (with_reducible exact Below.refl _ _) | (with_reducible assumption) | (with_reducible refine Below.alloc ?_ ?_ _) | (with_reducible refine below_grew ?_ ?_ _) | (with_reducible refine Below.setCell ?_ ?_ _) | (with_reducible refine Below.drew ?_) | (with_reducible refine below_drewN ?_ _) | omega | (simp; done) | (simp; omega)))))
      have HBW2 := Lib.hid (HBW.out.trans (Below.mono (B := wr.heap.size) (w' := wr.grew x) (by (repeat' (first | (with_reducible exact Below.refl _ _) | (with_reducible assumption) | (with_reducible refine Below.alloc ?_ ?_ _) | (with_reducible refine below_grew ?_ ?_ _) | (with_reducible refine Below.setCell ?_ ?_ _) | (with_reducible refine Below.drew ?_) | (with_reducible refine below_drewN ?_ _) | omega | (simp; done) | (simp; omega)))) HBW.out.size))
      clear hj0 hj1 hj2 hh0 hjs hjl HL HBW
      rw [HWS.out]
      go_wp2_with fail
      go_roundw
      case rel => exact ⟨b + 1, by omega, rfl, by rw [HNX.out], HL2.out, HBW2.out⟩
      case measure => simp [intOf]; omega
    · have hlt' : ¬ (b : Int) < nb := by omega
      obtain rfl : b = nb := by omega
      clear hlt hj0 hj1 hj2 hh0 hjl
      go_wp2_with fail
      go_ret
      exact ⟨rfl, HBW.out⟩
end Go.Proofs.YtcibajleknhklaaDoor
end

section
namespace Go.Proofs.YtcibajleknhklaaDoor
open Go.RowKit Go.BigFrame Go.Vec Go.Cost
set_option linter.unusedSimpArgs false
def costAt (s c : Int) (l : List Int) (b : Nat) : Int := if (b : Int) < bandsF s c then bitsF (widthF s c b) (l.getD b 0) else 0
def okAt (s c : Int) (l : List Int) (b : Nat) : Bool := if (b : Int) < bandsF s c then decide (0 ≤ bitsF (widthF s c b) (l.getD b 0)) else decide (l.getD b 0 = 0)
def sumAt (s c : Int) (l : List Int) : Nat → Int
  | 0 => 0
  | b + 1 => sumAt s c l b + costAt s c l b
def okTo (s c : Int) (l : List Int) : Nat → Bool
  | 0 => true
  | b + 1 => okTo s c l b && okAt s c l b
def totalF (s c : Int) (l : List Int) : Int := if RightP s c ∧ okTo s c l 5 = true then sumAt s c l 5 * c else -1
theorem WidthW.ne {b m : Nat} {w : World} (h : WidthW w) (hB : Book b m w) : m ≠ 1 := by
  intro e
  obtain ⟨es, clk, h1, _⟩ := hB.map
  have h2 := h.2 0 (by omega)
  subst e
  simp [World.cell?, h1] at h2
theorem WidthW.inv {b m : Nat} {w w' : World} (h : WidthW w) (hB : Book b m w) (hi : BkInv m w w') : WidthW w' :=
  ⟨Nat.lt_of_lt_of_le h.1 hi.size, fun j hj => (World.cell?_of_block (w := w) (hi.block _ h.1 (h.ne hB))).trans (h.2 j hj)⟩
end Go.Proofs.YtcibajleknhklaaDoor
end

section
namespace Go.Proofs.YtcibajleknhklaaDoor
open Go.RowKit Go.BigFrame Go.Vec Go.Cost
set_option linter.unusedSimpArgs false
/-- Of the first n bands: the best one, and its level. -/
def bestTo (s c t : Int) (l : List Int) : Nat → Int × Int
  | 0 => (-1, 0)
  | n + 1 =>
    let p := bestTo s c t l n
    if capF (widthF s c n) ≤ l.getD n 0 then p
    else if p.1 < 0 ∨ (l.getD n 0 + 1) * slopeF s c t n < p.2 then ((n : Int), (l.getD n 0 + 1) * slopeF s c t n) else p
def bestF (s c t : Int) (l : List Int) : Int := (bestTo s c t l (bandsF s c).toNat).1
theorem bestTo_bd (s c t : Int) (l : List Int) : ∀ n : Nat, -1 ≤ (bestTo s c t l n).1 ∧ (bestTo s c t l n).1 < n
  | 0 => by simp [bestTo]
  | n + 1 => by
    have h := bestTo_bd s c t l n
    simp only [bestTo]
    split
    · omega
    · split
      · simp only; omega
      · omega
end Go.Proofs.YtcibajleknhklaaDoor
end

section
namespace Go.Proofs.YtcibajleknhklaaDoor
open Go.RowKit Go.BigFrame Go.Vec Go.Cost
set_option linter.unusedSimpArgs false
def allocGo (s c t bud : Int) : Nat → List Int → List Int
  | 0, l => l
  | f + 1, l => if bestF s c t l < 0 then l else if totalF s c (l.set (bestF s c t l).toNat (l.getD (bestF s c t l).toNat 0 + 1)) > bud then l else allocGo s c t bud f (l.set (bestF s c t l).toNat (l.getD (bestF s c t l).toNat 0 + 1))
def allocF (s c t bud : Int) : List Int := allocGo s c t bud 161 [0, 0, 0, 0, 0]
def aggOf (l : List Int) : Value := .agg (l.map fun x => Value.int .i64 x).toArray
end Go.Proofs.YtcibajleknhklaaDoor
end

section
namespace Go.Proofs.YtcibajleknhklaaDoor
open Go.Vec Go.Cost
/-- Each band has at most what it may have; what is no band has none. -/
def FitL (s c : Int) (l : List Int) : Prop := l.length = 5 ∧ ∀ i : Nat, i < 5 → 0 ≤ l.getD i 0 ∧ (if (i : Int) < bandsF s c then l.getD i 0 ≤ capF (widthF s c i) else l.getD i 0 = 0)
def sum5 (l : List Int) : Int := l.getD 0 0 + l.getD 1 0 + l.getD 2 0 + l.getD 3 0 + l.getD 4 0
theorem bitsF_pos (n k : Int) (h0 : 0 ≤ k) (h : k ≤ capF n) : 0 ≤ bitsF n k := by
  unfold bitsF
  rw [if_pos ⟨h0, h⟩]
  omega
theorem fit_ok {s c : Int} {l : List Int} (h : FitL s c l) (i : Nat) (hi : i < 5) : okAt s c l i = true ∧ 0 ≤ costAt s c l i := by
  obtain ⟨h0, h1⟩ := h.2 i hi
  unfold okAt costAt
  split
  · rename_i hb
    rw [if_pos hb] at h1
    have := bitsF_pos _ _ h0 h1
    exact ⟨by simpa using this, this⟩
  · rename_i hb
    rw [if_neg hb] at h1
    exact ⟨by simpa using h1, by omega⟩
theorem bestF_lt (s c t : Int) (l : List Int) : bestF s c t l < bandsF s c := by
  have h1 := bestTo_bd s c t l (bandsF s c).toNat
  have h3 := bandsF_bd s c
  unfold bestF
  by_cases hz : bandsF s c = 0
  · rw [hz] at h1 ⊢
    simp [bestTo]
  · omega
theorem set5 {l : List Int} (hl : l.length = 5) (b : Nat) (hb : b < 5) (x : Int) (i : Nat) (hi : i < 5) : (l.set b x).getD i 0 = if i = b then x else l.getD i 0 := by
  simp only [List.getD_eq_getElem?_getD, List.getElem?_set]
  by_cases e : b = i
  · subst e; simp [hl, hb]
  · rw [if_neg e, if_neg (fun h => e h.symm)]
theorem fit_sum {s c : Int} {l : List Int} (h : FitL s c l) : sum5 l ≤ 160 := by
  have key : ∀ i : Nat, i < 5 → l.getD i 0 ≤ 32 := fun i hi => by
    obtain ⟨h0, h1⟩ := h.2 i hi
    split at h1
    · have := capF_bd (widthF s c i); omega
    · omega
  have := key 0 (by omega)
  have := key 1 (by omega)
  have := key 2 (by omega)
  have := key 3 (by omega)
  have := key 4 (by omega)
  unfold sum5
  omega
theorem fit_zero (s c : Int) : FitL s c [0, 0, 0, 0, 0] := by
  refine ⟨rfl, fun i hi => ?_⟩
  have e : ([0, 0, 0, 0, 0] : List Int).getD i 0 = 0 := by
    have : i = 0 ∨ i = 1 ∨ i = 2 ∨ i = 3 ∨ i = 4 := by omega
    rcases this with rfl | rfl | rfl | rfl | rfl <;> rfl
  rw [e]
  refine ⟨by omega, ?_⟩
  split
  · rename_i hb
    have hw : widthF s c i = widL.getD i 0 := by unfold widthF; rw [if_pos ⟨by omega, hb⟩]; simp
    rw [hw]
    have h5 : ∀ j : Fin 5, 0 ≤ capF (widL.getD j.val 0) := by decide +kernel
    exact h5 ⟨i, hi⟩
  · rfl
theorem total_zero (s c : Int) (hR : RightP s c) : totalF s c [0, 0, 0, 0, 0] = 0 := by
  have b0 : ∀ i : Nat, i < 5 → costAt s c [0, 0, 0, 0, 0] i = 0 := fun i hi => by
    have e : ([0, 0, 0, 0, 0] : List Int).getD i 0 = 0 := by
      have : i = 0 ∨ i = 1 ∨ i = 2 ∨ i = 3 ∨ i = 4 := by omega
      rcases this with rfl | rfl | rfl | rfl | rfl <;> rfl
    unfold costAt
    rw [e]
    split
    · rename_i hb
      have h1 := (fit_zero s c).2 i hi
      rw [e, if_pos hb] at h1
      unfold bitsF
      rw [if_pos h1]
      simp [pays_zero]
    · rfl
  have o : okTo s c [0, 0, 0, 0, 0] 5 = true := by
    have h := fit_zero s c
    simp only [okTo, (fit_ok h 0 (by omega)).1, (fit_ok h 1 (by omega)).1, (fit_ok h 2 (by omega)).1, (fit_ok h 3 (by omega)).1, (fit_ok h 4 (by omega)).1, Bool.and_true]
  unfold totalF
  rw [if_pos ⟨hR, o⟩]
  simp only [sumAt, b0 0 (by omega), b0 1 (by omega), b0 2 (by omega), b0 3 (by omega), b0 4 (by omega)]
  omega
end Go.Proofs.YtcibajleknhklaaDoor
namespace Go.Proofs.YtcibajleknhklaaDoor
open Go.Vec Go.Cost
/-- A slope by the document. -/
def slopeR (t : Int) (b : Nat) : Int := 64 / widL.getD b 0 + (8 - min (max t 0) 7) * b
theorem width_in {s c : Int} {b : Nat} (h : (b : Int) < bandsF s c) : widthF s c b = widL.getD b 0 := by
  unfold widthF; rw [if_pos ⟨by omega, h⟩]; simp
theorem slopeR_eq (s c t : Int) (b : Nat) (h : (b : Int) < bandsF s c) : slopeF s c t b = slopeR t b := by
  have hb := bandsF_bd s c
  have h5 : ∀ i : Fin 5, ¬ widL.getD i.val 0 = 0 := by decide
  unfold slopeF slopeR
  rw [width_in h, if_neg (h5 ⟨b, by omega⟩)]
theorem slopeR_pos (t : Int) (b : Nat) (hb : b < 5) : 1 ≤ slopeR t b ∧ slopeR t b ≤ 64 := by
  unfold slopeR
  have : b = 0 ∨ b = 1 ∨ b = 2 ∨ b = 3 ∨ b = 4 := by omega
  rcases this with rfl | rfl | rfl | rfl | rfl <;> simp [widL] <;> omega
def lev (t : Int) (b : Nat) (l : List Int) : Int := (l.getD b 0 + 1) * slopeR t b
def more (c : Int) (b : Nat) (l : List Int) : Int := c * (bitsF (widL.getD b 0) (l.getD b 0 + 1) - bitsF (widL.getD b 0) (l.getD b 0))
def inc (b : Nat) (l : List Int) : List Int := l.set b (l.getD b 0 + 1)
/-- From a level and a band on. -/
def runI (t bud c : Int) (nb : Nat) : Nat → Int → Nat → List Int → Int → List Int
  | 0, _, _, l, _ => l
  | F + 1, lv, b, l, sum =>
    if b < nb then
      if l.getD b 0 < capF (widL.getD b 0) ∧ lev t b l = lv then
        if bud < sum + more c b l then l else runI t bud c nb F lv (b + 1) (inc b l) (sum + more c b l)
      else runI t bud c nb F lv (b + 1) l sum
    else if lv < 3000 then runI t bud c nb F (lv + 1) 0 l sum else l
/-- What the best of the first n bands is. -/
theorem bestTo_spec (s c t : Int) (l : List Int) : ∀ n : Nat, (n : Int) ≤ bandsF s c →
    ((bestTo s c t l n).1 < 0 → ∀ b, b < n → capF (widL.getD b 0) ≤ l.getD b 0) ∧
    (0 ≤ (bestTo s c t l n).1 → ∃ b, (bestTo s c t l n).1 = (b : Nat) ∧ b < n ∧ (bestTo s c t l n).2 = lev t b l ∧ l.getD b 0 < capF (widL.getD b 0) ∧ ∀ j, j < n → l.getD j 0 < capF (widL.getD j 0) → lev t b l < lev t j l ∨ (lev t j l = lev t b l ∧ b ≤ j))
  | 0, _ => ⟨fun _ b hb => absurd hb (by omega), fun h => by simp [bestTo] at h⟩
  | n + 1, hn => by
    obtain ⟨h1, h2⟩ := bestTo_spec s c t l n (by omega)
    have hw : widthF s c n = widL.getD n 0 := width_in (by omega)
    have hs : slopeF s c t n = slopeR t n := slopeR_eq s c t n (by omega)
    have hbd := bestTo_bd s c t l n
    simp only [bestTo, hw, hs]
    by_cases hc : capF (widL.getD n 0) ≤ l.getD n 0
    · rw [if_pos hc]
      refine ⟨fun h b hb => ?_, fun h => ?_⟩
      · by_cases e : b = n
        · subst e; exact hc
        · exact h1 h b (by omega)
      · obtain ⟨b, e1, e2, e3, e4, e5⟩ := h2 h
        refine ⟨b, e1, by omega, e3, e4, fun j hj hcj => ?_⟩
        by_cases e : j = n
        · subst e; omega
        · exact e5 j (by omega) hcj
    · rw [if_neg hc]
      by_cases hlt : (bestTo s c t l n).1 < 0 ∨ (l.getD n 0 + 1) * slopeR t n < (bestTo s c t l n).2
      · rw [if_pos hlt]
        refine ⟨fun h => by simp only at h; omega, fun _ => ⟨n, rfl, by omega, rfl, by omega, fun j hj hcj => ?_⟩⟩
        by_cases e : j = n
        · subst e; exact .inr ⟨rfl, Nat.le_refl _⟩
        · rcases hlt with hlt | hlt
          · have := h1 hlt j (by omega); omega
          · by_cases h0 : (bestTo s c t l n).1 < 0
            · have := h1 h0 j (by omega); omega
            · obtain ⟨b, e1, e2, e3, e4, e5⟩ := h2 (by omega)
              rw [e3] at hlt
              have := e5 j (by omega) hcj
              left
              show (l.getD n 0 + 1) * slopeR t n < _
              omega
      · rw [if_neg hlt]
        rw [not_or] at hlt
        refine ⟨fun h => absurd h hlt.1, fun h => ?_⟩
        obtain ⟨b, e1, e2, e3, e4, e5⟩ := h2 h
        refine ⟨b, e1, by omega, e3, e4, fun j hj hcj => ?_⟩
        by_cases e : j = n
        · subst e
          have := hlt.2
          rw [e3] at this
          have e6 : lev t j l = (l.getD j 0 + 1) * slopeR t j := rfl
          by_cases e7 : lev t j l = lev t b l
          · exact .inr ⟨e7, by omega⟩
          · left; omega
        · exact e5 j (by omega) hcj
/-- What lies ahead: nothing that may still come is behind this place. -/
def Ahead (t : Int) (nb : Nat) (lv : Int) (b : Nat) (l : List Int) : Prop := ∀ j, j < nb → l.getD j 0 < capF (widL.getD j 0) → lv < lev t j l ∨ (lev t j l = lv ∧ b ≤ j)
theorem fit_oks {s c : Int} {l : List Int} (h : FitL s c l) : okTo s c l 5 = true := by
  simp only [okTo, (fit_ok h 0 (by omega)).1, (fit_ok h 1 (by omega)).1, (fit_ok h 2 (by omega)).1, (fit_ok h 3 (by omega)).1, (fit_ok h 4 (by omega)).1, Bool.and_true]
/-- One pulse more. -/
theorem fit_inc {s c : Int} {l : List Int} (h : FitL s c l) (b : Nat) (hb : (b : Int) < bandsF s c) (hc : l.getD b 0 < capF (widL.getD b 0)) : FitL s c (inc b l) ∧ sum5 (inc b l) = sum5 l + 1 := by
  have hbd := bandsF_bd s c
  have hB5 : b < 5 := by omega
  unfold inc
  refine ⟨⟨by simpa using h.1, fun i hi => ?_⟩, ?_⟩
  · rw [set5 h.1 b hB5 _ i hi]
    obtain ⟨h0, h1⟩ := h.2 i hi
    by_cases e : i = b
    · subst e
      rw [if_pos rfl, if_pos hb, width_in hb]
      exact ⟨by omega, by omega⟩
    · rw [if_neg e]
      exact ⟨h0, h1⟩
  · unfold sum5
    rw [set5 h.1 b hB5 _ 0 (by omega), set5 h.1 b hB5 _ 1 (by omega), set5 h.1 b hB5 _ 2 (by omega), set5 h.1 b hB5 _ 3 (by omega), set5 h.1 b hB5 _ 4 (by omega)]
    have : b = 0 ∨ b = 1 ∨ b = 2 ∨ b = 3 ∨ b = 4 := by omega
    rcases this with rfl | rfl | rfl | rfl | rfl <;> simp <;> omega
theorem total_inc {s c : Int} (hR : RightP s c) {l : List Int} (h : FitL s c l) (b : Nat) (hb : (b : Int) < bandsF s c) (hc : l.getD b 0 < capF (widL.getD b 0)) : totalF s c (inc b l) = totalF s c l + more c b l := by
  obtain ⟨h', _⟩ := fit_inc h b hb hc
  have hbd := bandsF_bd s c
  have hB5 : b < 5 := by omega
  unfold totalF
  rw [if_pos ⟨hR, fit_oks h'⟩, if_pos ⟨hR, fit_oks h⟩]
  have key : ∀ i : Nat, i < 5 → costAt s c (inc b l) i = costAt s c l i + if i = b then bitsF (widL.getD b 0) (l.getD b 0 + 1) - bitsF (widL.getD b 0) (l.getD b 0) else 0 := fun i hi => by
    unfold costAt inc
    rw [set5 h.1 b hB5 _ i hi]
    by_cases e : i = b
    · subst e
      rw [if_pos rfl, if_pos rfl, if_pos hb, if_pos hb, width_in hb]
      omega
    · rw [if_neg e, if_neg e]
      omega
  have hsum : sumAt s c (inc b l) 5 = sumAt s c l 5 + (bitsF (widL.getD b 0) (l.getD b 0 + 1) - bitsF (widL.getD b 0) (l.getD b 0)) := by
    simp only [sumAt, key 0 (by omega), key 1 (by omega), key 2 (by omega), key 3 (by omega), key 4 (by omega)]
    generalize bitsF (widL.getD b 0) (l.getD b 0 + 1) - bitsF (widL.getD b 0) (l.getD b 0) = D
    have : b = 0 ∨ b = 1 ∨ b = 2 ∨ b = 3 ∨ b = 4 := by omega
    rcases this with rfl | rfl | rfl | rfl | rfl <;> simp <;> omega
  rw [hsum, Int.add_mul]
  unfold more
  rw [Int.mul_comm c]
theorem run_eq {s c : Int} (hR : RightP s c) (t bud : Int) (nb : Nat) (hnb : bandsF s c = nb) : ∀ (F f : Nat) (lv : Int) (b : Nat) (l : List Int), 1 ≤ lv → lv ≤ 3000 → b ≤ nb → ((3000 - lv).toNat) * (nb + 1) + (nb - b) < F → FitL s c l → Ahead t nb lv b l → 160 - sum5 l < f →
    runI t bud c nb F lv b l (totalF s c l) = allocGo s c t bud f l
  | 0, _, _, _, _, _, _, _, hF, _, _, _ => absurd hF (by omega)
  | F + 1, f, lv, b, l, hl1, hl2, hbn, hF, hfit, hah, hf => by
    have hbd := bandsF_bd s c
    simp only [runI]
    by_cases hb : b < nb
    · rw [if_pos hb]
      by_cases hfire : l.getD b 0 < capF (widL.getD b 0) ∧ lev t b l = lv
      · rw [if_pos hfire]
        obtain ⟨hc, hlev⟩ := hfire
        have hbb : (b : Int) < bandsF s c := by omega
        -- the best band is this one
        have hbest : bestF s c t l = b := by
          obtain ⟨h1, h2⟩ := bestTo_spec s c t l nb (by omega)
          unfold bestF
          rw [hnb, Int.toNat_natCast]
          by_cases h0 : (bestTo s c t l nb).1 < 0
          · have := h1 h0 b hb; omega
          · obtain ⟨j, e1, e2, e3, e4, e5⟩ := h2 (by omega)
            rw [e1]
            have a1 := e5 b hb hc
            have a2 := hah j e2 e4
            have : j = b := by omega
            rw [this]
        have hsum := fit_sum hfit
        obtain ⟨f', rfl⟩ : ∃ f', f = f' + 1 := ⟨f - 1, by omega⟩
        simp only [allocGo]
        rw [hbest, if_neg (show ¬ ((b : Nat) : Int) < 0 by omega), Int.toNat_natCast]
        show _ = if bud < totalF s c (inc b l) then l else allocGo s c t bud f' (inc b l)
        rw [total_inc hR hfit b hbb hc]
        by_cases hbud : bud < totalF s c l + more c b l
        · rw [if_pos hbud, if_pos hbud]
        · rw [if_neg hbud, if_neg hbud]
          obtain ⟨hfit', hs'⟩ := fit_inc hfit b hbb hc
          rw [← total_inc hR hfit b hbb hc]
          refine run_eq hR t bud nb hnb F f' lv (b + 1) (inc b l) hl1 hl2 (by omega) (by omega) hfit' ?_ (by omega)
          intro j hj hcj
          have hB5 : b < 5 := by omega
          have hj5 : j < 5 := by omega
          have e0 : (inc b l).getD j 0 = if j = b then l.getD b 0 + 1 else l.getD j 0 := set5 hfit.1 b hB5 _ j hj5
          by_cases e : j = b
          · subst e
            rw [if_pos rfl] at e0
            left
            have hp := slopeR_pos t j hj5
            have e1 : lev t j (inc j l) = lev t j l + slopeR t j := by
              unfold lev
              rw [e0, show l.getD j 0 + 1 + 1 = (l.getD j 0 + 1) + 1 by omega, Int.add_mul (l.getD j 0 + 1) 1, Int.one_mul]
            omega
          · rw [if_neg e] at e0
            rw [e0] at hcj
            have e1 : lev t j (inc b l) = lev t j l := by unfold lev; rw [e0]
            rw [e1]
            rcases hah j hj hcj with h | ⟨h, h'⟩
            · exact .inl h
            · exact .inr ⟨h, by omega⟩
      · rw [if_neg hfire]
        refine run_eq hR t bud nb hnb F f lv (b + 1) l hl1 hl2 (by omega) (by omega) hfit ?_ hf
        intro j hj hcj
        rcases hah j hj hcj with h | ⟨h, h'⟩
        · exact .inl h
        · by_cases e : j = b
          · subst e; exact absurd ⟨hcj, h⟩ hfire
          · exact .inr ⟨h, by omega⟩
    · rw [if_neg hb]
      by_cases hlv : lv < 3000
      · rw [if_pos hlv]
        refine run_eq hR t bud nb hnb F f (lv + 1) 0 l (by omega) (by omega) (by omega) ?_ hfit ?_ hf
        · obtain ⟨d, hd⟩ : ∃ d : Nat, (3000 - lv).toNat = d + 1 := ⟨(3000 - lv).toNat - 1, by omega⟩
          have hd' : (3000 - (lv + 1)).toNat = d := by omega
          rw [hd, Nat.add_mul] at hF
          rw [hd']
          omega
        · intro j hj hcj
          rcases hah j hj hcj with h | ⟨h, h'⟩
          · by_cases e : lev t j l = lv + 1
            · exact .inr ⟨e, by omega⟩
            · exact .inl (by omega)
          · omega
      · rw [if_neg hlv]
        have hnone : bestF s c t l < 0 := by
          obtain ⟨h1, h2⟩ := bestTo_spec s c t l nb (by omega)
          unfold bestF
          rw [hnb, Int.toNat_natCast]
          refine Int.not_le.1 fun h0 => ?_
          obtain ⟨j, e1, e2, e3, e4, e5⟩ := h2 h0
          have hj5 : j < 5 := by omega
          have hp := slopeR_pos t j hj5
          have hcb := capF_bd (widL.getD j 0)
          have hk := (hfit.2 j hj5).1
          have hle : lev t j l ≤ 33 * 64 := by
            unfold lev
            exact Int.le_trans (Int.mul_le_mul_of_nonneg_right (show l.getD j 0 + 1 ≤ 33 by omega) (by omega)) (Int.mul_le_mul_of_nonneg_left hp.2 (by omega))
          rcases hah j e2 e4 with h | ⟨h, h'⟩ <;> omega
        have hsum := fit_sum hfit
        obtain ⟨f', rfl⟩ : ∃ f', f = f' + 1 := ⟨f - 1, by omega⟩
        simp only [allocGo]
        rw [if_pos hnone]
end Go.Proofs.YtcibajleknhklaaDoor
end

