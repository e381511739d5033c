/-
  A band's slope (package alloc).
  (One text out of these parts: Kit, Eq, Rgn, RgnI, Flat, Base, Vec, Idx, Tab, TabV, CostP, Len, SheetW, Sheet, Book, BookV, CostB, SheetC, Mode, Slope.)
-/
import Derived.Test.YtbcdnbbpkikppaaDoorFTla
import Derived.Deep.Quiet
import Derived.StillTail
import Derived.BigQuiet
import Derived.Below
import Derived.WalkKit
import Derived.WalkLawsBesides
import Derived.Lib.Hide
import Derived.Carry
import Derived.IntWalk
import Derived.Maps.AppendAt
import Derived.OwnWalk
import Derived.KernelRfl
import Derived.Laws.StructEq
import Derived.OpenShut
import Derived.Deep.MidRow
import Derived.Laws.CopyOwn
import Derived.Laws.Tables
import Derived.Laws.ResultCell
import Derived.Laws.Rows
import Derived.Lib.SliceRun
import Derived.Test.YtbcdnbbpkikppaaDoorWWords
import Derived.Test.YtbcdnbbpkikppaaDoorWLast
import Derived.Test.YtbcdnbbpkikppaaDoorWMore
import Derived.Laws.PanicsMore
import Derived.Test.YtbcdnbbpkikppaaDoorProg
import Derived.StillTailTactics
import Derived.Lib.BitFns
import Derived.Laws.Externs
import Derived.Test.YtbcdnbbpkikppaaDoorShelf
section
namespace Go
open Go.RowKit
/-- Blocks more, and another count of draws. -/
structure Grown.By where
  objs : Array Obj
  drawn : Nat
instance : Inhabited Grown.By := ⟨⟨#[], 0⟩⟩
/-- 'w' with blocks more, and another count of draws. -/
def World.grew (w : World) (x : Grown.By) : World := { w with heap := w.heap ++ x.objs, drawn := x.drawn }
section
variable (w : World) (x y : Grown.By)
theorem World.grew_block (k : Nat) (h : k < w.heap.size) : (w.grew x).heap[k]? = w.heap[k]? := by
  show (w.heap ++ x.objs)[k]? = _
  rw [Array.getElem?_append_left h]
@[simp, go_sem] theorem World.size_grew : (w.grew x).heap.size = w.heap.size + x.objs.size := by
  show (w.heap ++ x.objs).size = _
  simp
@[go_sem] theorem World.grew_grew : (w.grew x).grew y = w.grew ⟨x.objs ++ y.objs, y.drawn⟩ := by
  unfold World.grew
  simp [Array.append_assoc]
@[go_sem] theorem World.drew_grew : (w.grew x).drew = w.grew ⟨x.objs, x.drawn + 1⟩ := rfl
@[go_sem] theorem World.grew_drew : w.drew.grew x = w.grew x := rfl
@[go_sem] theorem World.grew_drewN (n : Nat) : (w.drewN n).grew x = w.grew x := rfl
@[go_sem] theorem World.drewN_grew (n : Nat) : (w.grew x).drewN n = w.grew ⟨x.objs, x.drawn + n⟩ := rfl
@[go_sem] theorem World.cell?_grew (n i : Nat) (s : Option Nat) (hn : n < w.heap.size) : (w.grew x).cell? ⟨n, i, s⟩ = w.cell? ⟨n, i, s⟩ := by
  unfold World.cell?
  rw [World.grew_block w x n hn]
@[go_sem] theorem World.frozen?_grew (n i : Nat) (s : Option Nat) (hn : n < w.heap.size) : (w.grew x).frozen? ⟨n, i, s⟩ = w.frozen? ⟨n, i, s⟩ := by
  unfold World.frozen?
  rw [World.grew_block w x n hn]
@[go_sem] theorem World.shape?_grew (n : Nat) (hn : n < w.heap.size) : (w.grew x).shape? n = w.shape? n := by
  unfold World.shape?
  rw [World.grew_block w x n hn]
@[go_sem] theorem World.setCell_grew (n i : Nat) (s : Option Nat) (v : Value) (hn : n < w.heap.size) : (w.grew x).setCell ⟨n, i, s⟩ v = (w.setCell ⟨n, i, s⟩ v).grew x := by
  unfold World.setCell World.grew
  congr 1
  apply Array.ext_getElem?
  intro k
  simp only [Array.getElem?_modify, Array.getElem?_append, Array.size_modify]
  by_cases hk : k < w.heap.size
  · simp [hk]
  · simp [hk]
    intro h; omega
@[go_sem] theorem World.heap_grew (k : Nat) (hk : k < w.heap.size) : (w.grew x).heap[k]? = w.heap[k]? := World.grew_block w x k hk
@[simp] theorem World.os_grew : (w.grew x).os = w.os := rfl
@[simp] theorem World.tape_grew : (w.grew x).tape = w.tape := rfl
end
@[go_sem] theorem lt_add_of_lt1 (a b c0 : Nat) (h : a < b) : (a < b + c0) = True := eq_true (by omega)
@[go_sem] theorem le_add_of_lt1 (a b c0 : Nat) (h : a < b) : (a ≤ b + c0) = True := eq_true (by omega)
@[go_sem] theorem ne_add_of_lt1 (a b c0 : Nat) (h : a < b) : (a = b + c0) = False := eq_false (by omega)
@[go_sem] theorem lt_add_of_lt2 (a b c0 c1 : Nat) (h : a < b) : (a < b + c0 + c1) = True := eq_true (by omega)
@[go_sem] theorem le_add_of_lt2 (a b c0 c1 : Nat) (h : a < b) : (a ≤ b + c0 + c1) = True := eq_true (by omega)
@[go_sem] theorem ne_add_of_lt2 (a b c0 c1 : Nat) (h : a < b) : (a = b + c0 + c1) = False := eq_false (by omega)
@[go_sem] theorem lt_add_of_lt3 (a b c0 c1 c2 : Nat) (h : a < b) : (a < b + c0 + c1 + c2) = True := eq_true (by omega)
@[go_sem] theorem le_add_of_lt3 (a b c0 c1 c2 : Nat) (h : a < b) : (a ≤ b + c0 + c1 + c2) = True := eq_true (by omega)
@[go_sem] theorem ne_add_of_lt3 (a b c0 c1 c2 : Nat) (h : a < b) : (a = b + c0 + c1 + c2) = False := eq_false (by omega)
@[go_sem] theorem lt_add_of_lt4 (a b c0 c1 c2 c3 : Nat) (h : a < b) : (a < b + c0 + c1 + c2 + c3) = True := eq_true (by omega)
@[go_sem] theorem le_add_of_lt4 (a b c0 c1 c2 c3 : Nat) (h : a < b) : (a ≤ b + c0 + c1 + c2 + c3) = True := eq_true (by omega)
@[go_sem] theorem ne_add_of_lt4 (a b c0 c1 c2 c3 : Nat) (h : a < b) : (a = b + c0 + c1 + c2 + c3) = False := eq_false (by omega)
@[go_sem] theorem lt_add_of_lt5 (a b c0 c1 c2 c3 c4 : Nat) (h : a < b) : (a < b + c0 + c1 + c2 + c3 + c4) = True := eq_true (by omega)
@[go_sem] theorem le_add_of_lt5 (a b c0 c1 c2 c3 c4 : Nat) (h : a < b) : (a ≤ b + c0 + c1 + c2 + c3 + c4) = True := eq_true (by omega)
@[go_sem] theorem ne_add_of_lt5 (a b c0 c1 c2 c3 c4 : Nat) (h : a < b) : (a = b + c0 + c1 + c2 + c3 + c4) = False := eq_false (by omega)
@[go_sem] theorem le_self2 (a c0 c1 : Nat) : (a ≤ a + c0 + c1) = True := eq_true (by omega)
@[go_sem] theorem le_self3 (a c0 c1 c2 : Nat) : (a ≤ a + c0 + c1 + c2) = True := eq_true (by omega)
@[go_sem] theorem le_self4 (a c0 c1 c2 c3 : Nat) : (a ≤ a + c0 + c1 + c2 + c3) = True := eq_true (by omega)
@[go_sem] theorem le_self5 (a c0 c1 c2 c3 c4 : Nat) : (a ≤ a + c0 + c1 + c2 + c3 + c4) = True := eq_true (by omega)
@[go_sem] theorem le_self6 (a c0 c1 c2 c3 c4 c5 : Nat) : (a ≤ a + c0 + c1 + c2 + c3 + c4 + c5) = True := eq_true (by omega)
@[go_sem] theorem lt_self1 (a c0 : Nat) : (a < a + 1 + c0) = True := eq_true (by omega)
@[go_sem] theorem ne_self1 (a c0 : Nat) : (a = a + 1 + c0) = False := eq_false (by omega)
@[go_sem] theorem lt_self2 (a c0 c1 : Nat) : (a < a + 1 + c0 + c1) = True := eq_true (by omega)
@[go_sem] theorem ne_self2 (a c0 c1 : Nat) : (a = a + 1 + c0 + c1) = False := eq_false (by omega)
@[go_sem] theorem lt_self3 (a c0 c1 c2 : Nat) : (a < a + 1 + c0 + c1 + c2) = True := eq_true (by omega)
@[go_sem] theorem ne_self3 (a c0 c1 c2 : Nat) : (a = a + 1 + c0 + c1 + c2) = False := eq_false (by omega)
@[go_sem] theorem lt_self4 (a c0 c1 c2 c3 : Nat) : (a < a + 1 + c0 + c1 + c2 + c3) = True := eq_true (by omega)
@[go_sem] theorem ne_self4 (a c0 c1 c2 c3 : Nat) : (a = a + 1 + c0 + c1 + c2 + c3) = False := eq_false (by omega)
@[go_sem] theorem lt_self5 (a c0 c1 c2 c3 c4 : Nat) : (a < a + 1 + c0 + c1 + c2 + c3 + c4) = True := eq_true (by omega)
@[go_sem] theorem ne_self5 (a c0 c1 c2 c3 c4 : Nat) : (a = a + 1 + c0 + c1 + c2 + c3 + c4) = False := eq_false (by omega)
theorem World.grew_none (w : World) : w.grew ⟨#[], w.drawn⟩ = w := by unfold World.grew; simp
theorem World.as_grew (w : World) : ∃ x, w = w.grew x := ⟨_, (World.grew_none w).symm⟩
theorem below_grew {B : Nat} {a w : World} (h : Below B a w) (hB : B ≤ w.heap.size) (x : Grown.By) : Below B a (w.grew x) :=
  h.trans ⟨rfl, rfl, rfl, by simp, fun k hk => World.grew_block _ _ _ (by omega)⟩
/-- What lies below the size of 'w' is as it was: so w' is w, grown. -/
theorem below_as_grew {w w' : World} (h : Below w.heap.size w w') : ∃ x : Grown.By, w' = w.grew x := by
  refine ⟨⟨w'.heap.extract w.heap.size w'.heap.size, w'.drawn⟩, ?_⟩
  have hh : w'.heap = w.heap ++ w'.heap.extract w.heap.size w'.heap.size := by
    apply Array.ext_getElem?
    intro k
    rw [Array.getElem?_append]
    by_cases hk : k < w.heap.size
    · rw [if_pos hk, h.block k hk]
    · rw [if_neg hk, Array.getElem?_extract]
      by_cases h2 : k < w'.heap.size
      · rw [if_pos (by omega)]
        congr 1; omega
      · rw [if_neg (by omega)]
        simp; omega
  obtain ⟨hp, tp, dr, os, out⟩ := w'
  obtain ⟨a1, a2, a3, a4, a5⟩ := h
  simp only at *
  subst a1 a2 a3
  unfold World.grew
  simp only
  congr 1
section
variable {P : Program} {ops : Array Oper} {md : Region.Mode} {C : World → Prop}
def headQ (P : Program) (md : Region.Mode) (ops : Array Oper) (C : World → Prop) (n : Nat) (L : Array Bool → Act → Prop) : Nat → Array Bool → Act → Prop
  | 0, listed, a => L listed a
  | f + 1, listed, a =>
    Region.ready md ops listed ≠ [] ∧ ∀ i ∈ Region.ready md ops listed, i < n ∧ qOp P ops C i (headQ P md ops C n L f (listed.setIfInBounds i true)) a
theorem wpAny_of_headQ {n g : Nat} {L : Array Bool → Act → Prop} {Q' : Exit → Act → World → Prop} (hL : ∀ listed a w, C w → L listed a → wpAny P md ops Q' g listed a w) :
    ∀ (f : Nat) (listed : Array Bool) (a : Act) (w : World), C w → headQ P md ops C n L f listed a → wpAny P md ops Q' (f + g) listed a w
  | 0, listed, a, w, hw, h => by rw [Nat.zero_add]; exact hL _ _ _ hw h
  | f + 1, listed, a, w, hw, h => by
    rw [show f + 1 + g = (f + g) + 1 by omega]
    exact ⟨fun h0 => absurd h0 h.1, fun i hi => wpOp_of_qOp hw (fun a' w' hw' h' => wpAny_of_headQ hL f _ a' w' hw' h') (h.2 i hi).2⟩
theorem headQ_first {n i : Nat} {oi : Oper} {v : Value} {L : Array Bool → Act → Prop} (hi : ops[i]? = some oi) (hsel : ∀ (j : Nat) (o : Oper) cs b, ops[j]? = some o → o.op ≠ .select cs b)
    (hs : Region.sinkB md ops n = true) (hc : Region.chainB md ops n = true) (hn : n < ops.size) (hin : i < n)
    (hdone : ∀ listed a, L listed a → ∀ j ∈ Region.ready md ops listed, n ≤ j) :
    ∀ (f : Nat) (listed : Array Bool) (a : Act), HeadInv md ops n listed →
      (∀ j oj, ops[j]? = some oj → j ≠ i → listed.getD j true = false → (∀ e ∈ oj.after, Region.binds md e = true → e.on ≠ i) → oi.apart ops oj = true) →
      i ∈ Region.ready md ops listed → YieldsIn P ops C oi v a →
      headQ P md ops C n L f (listed.setIfInBounds i true) (a.put oi.dst v) → headQ P md ops C n L (f + 1) listed a := by
  intro f
  induction f with
  | zero =>
    intro listed a inv _ hr hy H
    have hun := (mem_ready.1 hr).1
    refine ⟨fun h => (by rw [h] at hr; cases hr), fun j hj => ?_⟩
    have hjn : j < n := by
      rcases Nat.lt_or_ge j n with h | h
      · exact h
      · exact absurd hj (tail_waits hs hc hn inv _ i rfl hin hun j h)
    refine ⟨hjn, ?_⟩
    by_cases hji : j = i
    · subst hji; exact hy.qOp hi H
    · have := hdone _ _ H j (ready_mono hj hji)
      omega
  | succ f ih =>
    intro listed a inv hfree hr hy H
    have hun := (mem_ready.1 hr).1
    refine ⟨fun h => (by rw [h] at hr; cases hr), fun j hj => ?_⟩
    have hjn : j < n := by
      rcases Nat.lt_or_ge j n with h | h
      · exact h
      · exact absurd hj (tail_waits hs hc hn inv _ i rfl hin hun j h)
    refine ⟨hjn, ?_⟩
    by_cases hji : j = i
    · subst hji; exact hy.qOp hi H
    · have h1 := (H.2 j (ready_mono hj hji)).2
      obtain ⟨hjun, oj, hoj, hall⟩ := mem_ready.1 hj
      have hnot : ∀ e ∈ oj.after, Region.binds md e = true → e.on ≠ i := fun e he hb heq => by
        have h1 := hall e he hb
        rw [heq, getD_both hun] at h1
        cases h1
      have h2 := qOp_put hoj (hfree j oj hoj hji hjun hnot) (fun cs b => hsel i oi cs b hi) (fun cs b => hsel j oj cs b hoj) hy h1
      have hfree' : ∀ k ok, ops[k]? = some ok → k ≠ i → (listed.setIfInBounds j true).getD k true = false →
          (∀ e ∈ ok.after, Region.binds md e = true → e.on ≠ i) → oi.apart ops ok = true := fun k ok hk hki hun hno => by
        refine hfree k ok hk hki ?_ hno
        by_cases hjk : j = k
        · subst hjk; exact hjun
        · rw [getD_set_ne true hjk] at hun; exact hun
      refine qOp_mono (fun a' h3 => ih (listed.setIfInBounds j true) a' (inv.set hj hjn) hfree' (ready_mono hr (Ne.symm hji)) h3.1 ?_) h2
      rw [Array.setIfInBounds_comm _ _ hji]
      exact h3.2
theorem headQ_lex {n g : Nat} {Lq : Act → Prop} (hsel : Region.noSelect ops = true) (hs : Region.sinkB md ops n = true) (hc : Region.chainB md ops n = true) (hn : n < ops.size) :
    ∀ (l : List Oper) (k : Nat) (listed : Array Bool) (a : Act), (∀ j, j < l.length → l[j]? = ops[k + j]?) → k + l.length = n → HeadInv md ops n listed →
    Region.lexHead md ops g l.length k listed = true → wpQuiet P ops C Lq l a →
    headQ P md ops C n (fun listed' a' => Region.seqB md ops g n listed' = true ∧ Lq a') l.length listed a
  | [], k, listed, a, _, hk, _, hB, h => by
    have : k = n := by simpa using hk
    subst this
    exact ⟨by simpa [Region.lexHead] using hB, h⟩
  | o :: l, k, listed, a, hl, hk, inv, hB, h => by
    have h0 : ops[k]? = some o := by simpa using (hl 0 (by simp)).symm
    simp only [List.length_cons, Region.lexHead, Bool.and_eq_true] at hB
    obtain ⟨⟨hr, hf⟩, hB'⟩ := hB
    have hkn : k < n := by simp only [List.length_cons] at hk; omega
    have hr' : k ∈ Region.ready md ops listed := by simpa using hr
    have hst : qOp P ops C k (wpQuiet P ops C Lq l) a := by unfold qOp; simp only [h0]; exact h
    obtain ⟨v, hy, hK⟩ := yieldsIn_of_qOp h0 hst
    exact headQ_first h0 (Region.noSelect_spec hsel) hs hc hn hkn (fun listed' a' hL => seqB_ready hL.1) l.length listed a inv (Region.free_spec h0 hf) hr' hy
      (headQ_lex hsel hs hc hn l (k + 1) _ _ (fun j hj => by have := hl (j + 1) (by simp; omega); simpa [Nat.add_assoc, Nat.add_comm 1 j] using this) (by simp only [List.length_cons] at hk; omega) (inv.set hr' hkn) hB' hK)
theorem wp_region_headQ {id : Nat} {Q : Exit → Act → World → Prop} {a : Act} {w : World} {l : List Oper} (n : Nat) (hm : P.follows .mixedOrders = true) (hB : Region.lexTailB .any l.toArray n = true)
    (hC : C { w with drawn := w.drawn + 1 })
    (h : wpQuiet P l.toArray C (fun a' => ∀ w', C w' → wpList P l.toArray Q (l.drop n) a' w') (l.take n) a) : (Code.region id l.toArray true).wp P Q a w := by
  simp only [Region.lexTailB, Bool.and_eq_true, decide_eq_true_eq] at hB
  obtain ⟨⟨⟨⟨hsel, hn⟩, hs⟩, hc⟩, hlex⟩ := hB
  have hn' : n < l.length := by simpa using hn
  have htl : (l.take n).length = n := by simp; omega
  have hdl : (l.drop n).length = l.toArray.size - n := by simp
  have inv0 : HeadInv .any l.toArray n (Array.replicate l.toArray.size false) :=
    ⟨by simp, fun j oj _ hl => (by rw [getD_replicate_false] at hl; cases hl), fun t _ ht => getD_in (by simpa using ht) (getD_replicate_false _ _)⟩
  have hhead := headQ_lex (P := P) (C := C) (md := .any) (ops := l.toArray) (n := n) (g := l.toArray.size - n) hsel hs hc hn (l.take n) 0 (Array.replicate l.toArray.size false) a
    (fun j hj => by rw [htl] at hj; simp [hj]) (by simpa using htl) inv0 (by rw [htl]; exact hlex) h
  rw [htl] at hhead
  refine wp_region_any hm ?_
  have := wpAny_of_headQ (P := P) (C := C) (md := .any) (ops := l.toArray) (Q' := Q) (g := l.toArray.size - n)
    (fun listed a' w' hw' hL => by
      have hq := wpAny_of_seq (P := P) (md := .any) (ops := l.toArray) (Q' := Q) (l.drop n) n listed a' w' (fun j => by simp [List.getElem?_drop]) (by rw [hdl]; exact hL.1) (hL.2 w' hw')
      rwa [hdl] at hq) n _ a _ hC hhead
  have e : n + (l.toArray.size - n) = l.toArray.size := by omega
  rwa [e] at this
/-- The class: the world at hand, grown. -/
theorem wp_region_grew {id : Nat} {Q : Exit → Act → World → Prop} {a : Act} {w : World} {l : List Oper} (n : Nat) (hm : P.follows .mixedOrders = true) (hB : Region.lexTailB .any l.toArray n = true)
    (h : wpQuiet P l.toArray (fun w' => ∃ x, w' = w.grew x) (fun a' => ∀ w', (∃ x, w' = w.grew x) → wpList P l.toArray Q (l.drop n) a' w') (l.take n) a) : (Code.region id l.toArray true).wp P Q a w :=
  wp_region_headQ n hm hB ⟨⟨#[], w.drawn + 1⟩, by unfold World.grew; simp⟩ h
/-- A region all of whose operations are quiet. -/
theorem wp_region_grew_all {id : Nat} {Q : Exit → Act → World → Prop} {a : Act} {w : World} {l : List Oper} (hm : P.follows .mixedOrders = true) (hB : Region.lexB .any l.toArray = true)
    (h : wpQuiet P l.toArray (fun w' => ∃ x, w' = w.grew x) (fun a' => ∀ w', (∃ x, w' = w.grew x) → Q .normal a' w') l a) : (Code.region id l.toArray true).wp P Q a w :=
  wp_region_quiet (C := fun w' => ∃ x, w' = w.grew x) hm hB ⟨⟨#[], w.drawn + 1⟩, by unfold World.grew; simp⟩ (by simpa using h)
theorem wp_region_grew2 {id : Nat} {Q : Exit → Act → World → Prop} {a : Act} {w : World} {x0 : Grown.By} {l : List Oper} (n : Nat) (hm : P.follows .mixedOrders = true) (hB : Region.lexTailB .any l.toArray n = true)
    (h : wpQuiet P l.toArray (fun w' => ∃ x, w' = w.grew x) (fun a' => ∀ w', (∃ x, w' = w.grew x) → wpList P l.toArray Q (l.drop n) a' w') (l.take n) a) : (Code.region id l.toArray true).wp P Q a (w.grew x0) :=
  wp_region_headQ n hm hB ⟨⟨x0.objs, x0.drawn + 1⟩, rfl⟩ h
theorem wp_region_grew_all2 {id : Nat} {Q : Exit → Act → World → Prop} {a : Act} {w : World} {x0 : Grown.By} {l : List Oper} (hm : P.follows .mixedOrders = true) (hB : Region.lexB .any l.toArray = true)
    (h : wpQuiet P l.toArray (fun w' => ∃ x, w' = w.grew x) (fun a' => ∀ w', (∃ x, w' = w.grew x) → Q .normal a' w') l a) : (Code.region id l.toArray true).wp P Q a (w.grew x0) :=
  wp_region_quiet (C := fun w' => ∃ x, w' = w.grew x) hm hB ⟨⟨x0.objs, x0.drawn + 1⟩, rfl⟩ (by simpa using h)
/-- A contract that makes memory, met in a grown world. -/
theorem Calls.grew_of {f : FuncId} {args : Array Value} {w : World} {x : Grown.By} {v : Value}
    (h : Calls P f args (w.grew x) fun e w' => e = .returned v ∧ Below (w.grew x).heap.size (w.grew x) w') : Calls P f args (w.grew x) fun e w'' => e = .returned v ∧ ∃ y, w'' = w.grew y :=
  h.mono fun _ _ ⟨he, hb⟩ => ⟨he, by
    obtain ⟨y, hy⟩ := below_as_grew hb
    exact ⟨_, hy.trans (World.grew_grew w x y)⟩⟩
/-- A contract that leaves the world alone. -/
theorem Calls.grew_of_same {f : FuncId} {args : Array Value} {w : World} {x : Grown.By} {v : Value}
    (h : Calls P f args (w.grew x) fun e w' => e = .returned v ∧ w.grew x = w') : Calls P f args (w.grew x) fun e w'' => e = .returned v ∧ ∃ y, w'' = w.grew y :=
  h.mono fun _ _ ⟨he, hb⟩ => ⟨he, x, hb.symm⟩
end
theorem ret_int {k : IntKind} {a b : Int} (h : a = b) : Ending.returned (.int k a) = .returned (.int k b) := by rw [h]
theorem ret_bool {a b : Bool} (h : a = b) : Ending.returned (.bool a) = .returned (.bool b) := by rw [h]
def TabW (g n : Nat) (k : IntKind) (zs : List Int) (w : World) : Prop := g < w.heap.size ∧ ∀ j : Nat, j < n → w.cell? ⟨g, j, none⟩ = some (.int k (zs.getD j 0))
theorem TabW.below {g n : Nat} {k : IntKind} {zs : List Int} {w w' : World} (h : TabW g n k zs w) (hb : Below w.heap.size w w') : TabW g n k zs w' :=
  ⟨Nat.lt_of_lt_of_le h.1 hb.size, fun j hj => (hb.cell (p := ⟨g, j, none⟩) h.1).trans (h.2 j hj)⟩
/-- Behind an append to a row of one's own from 'base' on, all below 'base' is as it was. -/
theorem below_of_grown {base : Nat} {e : TypeId} {size n : Nat} {v : Value} {xs : List Value} {w w' : World} (hown : w.ownsRow base e size v n xs) (hg : w.grownBy w' v.ownBlock) (hbase : base ≤ w.heap.size) : Below base w w' :=
  ⟨hg.os, hg.tape, hg.output, hg.size, fun k hk => hg.block k (by omega) (fun h => by
    have := (hown.lt k h.symm).1
    omega)⟩
theorem ownsRow_below {base : Nat} {e : TypeId} {size n : Nat} {v : Value} {xs : List Value} {w w' : World} (hown : w.ownsRow base e size v n xs) (hb : Below w.heap.size w w') : w'.ownsRow base e size v n xs := by
  obtain ⟨h1, h2⟩ := hown
  refine ⟨h1, ?_⟩
  rcases h2 with h2 | ⟨g, cap, cur, hv, hg, hh, r⟩
  · exact .inl h2
  · exact .inr ⟨g, cap, cur, hv, hg, (hb.block g (Array.getElem?_eq_some_iff.1 hh).1).trans hh, r⟩
/-- 'v = append(v, x)': one element, which lies in the block that was made last. -/
theorem wpList_append_one {P : Program} {ops : Array Oper} {rest : List Oper} {o : Oper} {a : Act} {Q : Exit → Act → World → Prop} {w : World} (hgd : o.guard = none) (s x : Operand) (t : TypeId)
    (ho : o.op = .call { callee := .builtin .append, args := #[s, x], argTypes := #[t, t] })
    (base : Nat) (e : TypeId) (z : Value) (size bytes : Nat) (ht : P.underlying t = some (.slice e)) (hi : (P.info? e).map (fun i => (i.zero, i.size, i.bytes)) = some (some z, size, bytes))
    (hzs : z.cells.size = size) (hsz : 0 < size)
    (v : Value) (n : Nat) (xs : List Value) (hs : a.eval s = v) (hown : w.ownsRow base e size v n xs)
    (g : Nat) (news : List Value) (hx : a.eval x = .slice (some ⟨g, 0, none⟩) 1 1) (hg : g = w.heap.size) (hl : news.length = size) (h1 : ∀ u ∈ news, u.oneCell' = true)
    (h63 : n + 1 ≤ maxLen) (hbytes : (n + 1) * bytes ≤ 140737488355328) (hbase : base ≤ w.heap.size)
    (h : ∀ v' w', w'.ownsRow base e size v' (n + 1) (xs ++ news) → Below base w w' → w.grownBy w' v.ownBlock → (v'.ownBlock = v.ownBlock ∨ v'.ownBlock = some (w.heap.size + 1)) → wpList P ops Q rest (a.put o.dst v') w') :
    wpList P ops Q (o :: rest) a (w.alloc (.cells news.toArray e)) := by
  subst hg
  obtain ⟨i0, hi0, hz0, hz1, hz2⟩ := info_parts hi
  refine wpList_append_own_at (w := w.alloc (.cells news.toArray e)) hgd s x t ho base e i0 z size bytes ht hi0 hz0 hz1 hz2 hzs hsz v n xs hs (hown.alloc _) ⟨w.heap.size, 0, none⟩ 1 1 news hx (by omega) ?_ h1 h63 hbytes (by simp; omega) ?_
  · intro j u hj
    have : (⟨w.heap.size, 0, none⟩ : Addr).add j = ⟨w.heap.size, j, none⟩ := by unfold Addr.add; split <;> simp_all
    rw [this, World.cell?_alloc_new]
    simpa using hj
  · intro v' w' h2 h3 _ h5
    have h6 : w.grownBy w' v.ownBlock := (World.grownBy_alloc w _ _).trans h3
    exact h v' w' h2 (below_of_grown hown h6 hbase) h6 (by simpa using h5)
theorem max2_i (k k' : IntKind) (x y : Int) : Builtin.max2 (.int k x) (.int k' y) = pure (.int k (max x y)) := by
  simp only [Builtin.max2]
  congr 2
  split <;> omega
theorem min2_i (k k' : IntKind) (x y : Int) : Builtin.min2 (.int k x) (.int k' y) = pure (.int k (min x y)) := by
  simp only [Builtin.min2]
  congr 2
  split <;> omega
theorem max_2 (ats : Array TypeId) (ty : TypeId) (a b : Value) : Builtin.max_ ats ty #[a, b] = (Builtin.max2 a b >>= fun s => pure s) := by simp only [Builtin.max_, List.foldlM_cons, List.foldlM_nil]
theorem min_2 (ats : Array TypeId) (ty : TypeId) (a b : Value) : Builtin.min_ ats ty #[a, b] = (Builtin.min2 a b >>= fun s => pure s) := by simp only [Builtin.min_, List.foldlM_cons, List.foldlM_nil]
theorem max_3 (ats : Array TypeId) (ty : TypeId) (a b c : Value) : Builtin.max_ ats ty #[a, b, c] = (Builtin.max2 a b >>= fun s => Builtin.max2 s c >>= fun s => pure s) := by simp only [Builtin.max_, List.foldlM_cons, List.foldlM_nil]
theorem min_3 (ats : Array TypeId) (ty : TypeId) (a b c : Value) : Builtin.min_ ats ty #[a, b, c] = (Builtin.min2 a b >>= fun s => Builtin.min2 s c >>= fun s => pure s) := by simp only [Builtin.min_, List.foldlM_cons, List.foldlM_nil]
attribute [go_sem] max2_i min2_i max_2 min_2 max_3 min_3
theorem maxLen_le {n : Nat} (h : n ≤ 4294967295) : n ≤ maxLen := by unfold maxLen; omega
end Go
end

section
namespace Go
set_option linter.unusedSimpArgs false
inductive Leaf where
  | int (k : IntKind)
  | bool
  deriving DecidableEq
def Leaf.fits : Leaf → Value → Bool
  | .int k, .int k' _ => decide (k = k')
  | .bool, .bool _ => true
  | _, _ => false
/-- Two cells alike. -/
def cellEq : Value → Value → Bool
  | .int _ a, .int _ b => a == b
  | .bool a, .bool b => a == b
  | _, _ => false
def cellsEq : List Value → List Value → Bool
  | [], [] => true
  | x :: xs, y :: ys => cellEq x y && cellsEq xs ys
  | _, _ => false
def fitAll : List Leaf → List Value → Bool
  | [], [] => true
  | l :: ls, x :: xs => l.fits x && fitAll ls xs
  | _, _ => false
/-- The fields' offsets are the sums of what stands ahead; none is blank. -/
def offsOk : List Field → List (List Leaf) → Nat → Bool
  | [], [], _ => true
  | f :: fs, l :: ls, o => f.name != "_" && f.offset == o && offsOk fs ls (o + l.length)
  | _, _, _ => false
/-- The cells of a type of whole numbers and bools. -/
def layout (P : Program) : Nat → TypeId → Option (List Leaf)
  | 0, _ => none
  | d + 1, t =>
    match P.underlying t with
    | some .bool => if (P.info? t).isSome && P.cellsOf t == 1 then some [.bool] else none
    | some (.int k) => if (P.info? t).isSome && P.cellsOf t == 1 then some [.int k] else none
    | some (.array n e) => (layout P d e).bind fun l => if (P.info? t).isSome && P.cellsOf t == (List.replicate n l).flatten.length then some (List.replicate n l).flatten else none
    | some (.struct fs) => (fs.toList.mapM fun f => layout P d f.type).bind fun ls => if (P.info? t).isSome && P.cellsOf t == ls.flatten.length && offsOk fs.toList ls 0 && !P.stoodInHeld t then some ls.flatten else none
    | _ => none
def isAggB (P : Program) (t : TypeId) : Bool := match P.underlying t with | some (.struct _) | some (.array _ _) => true | _ => false
def asVal (P : Program) (t : TypeId) (cs : List Value) : Value := if isAggB P t then .agg cs.toArray else cs.headD undef
theorem fitAll_length : ∀ {ls : List Leaf} {xs : List Value}, fitAll ls xs = true → xs.length = ls.length
  | [], [], _ => rfl
  | _ :: ls, _ :: xs, h => by
    simp only [fitAll, Bool.and_eq_true] at h
    simp [fitAll_length h.2]
theorem fits_bool {v : Value} (h : Leaf.bool.fits v = true) : ∃ b, v = .bool b := by
  cases v with
  | bool b => exact ⟨b, rfl⟩
  | _ => exact absurd h (by simp [Leaf.fits])
theorem fits_int {k : IntKind} {v : Value} (h : (Leaf.int k).fits v = true) : ∃ n, v = .int k n := by
  cases v with
  | int k' n =>
    have : k = k' := by simpa [Leaf.fits] using h
    exact ⟨n, by rw [this]⟩
  | _ => exact absurd h (by simp [Leaf.fits])
theorem fit_one {l : Leaf} {xs : List Value} (h : fitAll [l] xs = true) : ∃ x, xs = [x] ∧ l.fits x = true := by
  cases xs with
  | nil => simp [fitAll] at h
  | cons x xs =>
    cases xs with
    | nil => exact ⟨x, rfl, by simpa [fitAll] using h⟩
    | cons y ys => simp [fitAll] at h
theorem fitAll_append : ∀ {ls ms : List Leaf} {xs : List Value}, fitAll (ls ++ ms) xs = true → fitAll ls (xs.take ls.length) = true ∧ fitAll ms (xs.drop ls.length) = true
  | [], ms, xs, h => by simpa [fitAll] using h
  | l :: ls, ms, x :: xs, h => by
    simp only [List.cons_append, fitAll, Bool.and_eq_true] at h
    obtain ⟨h1, h2⟩ := fitAll_append h.2
    exact ⟨by simp [fitAll, h.1, h1], by simpa using h2⟩
theorem cellsEq_append : ∀ (xs ys us vs : List Value), xs.length = ys.length → cellsEq (xs ++ us) (ys ++ vs) = (cellsEq xs ys && cellsEq us vs)
  | [], [], us, vs, _ => by simp [cellsEq]
  | x :: xs, y :: ys, us, vs, h => by
    simp only [List.cons_append, cellsEq]
    rw [cellsEq_append xs ys us vs (by simpa using h), Bool.and_assoc]
section
variable {P : Program} (w : World)
theorem layout_info {d : Nat} {t : TypeId} {ls : List Leaf} (h : layout P d t = some ls) : ∃ i, P.info? t = some i ∧ i.size = ls.length := by
  cases d with
  | zero => simp [layout] at h
  | succ d =>
    have key : ∀ n : Nat, ((P.info? t).isSome && P.cellsOf t == n) = true → ∃ i, P.info? t = some i ∧ i.size = n := by
      intro n hn
      simp only [Bool.and_eq_true, beq_iff_eq] at hn
      obtain ⟨i, hi⟩ := Option.isSome_iff_exists.1 hn.1
      exact ⟨i, hi, by rw [← hn.2]; simp [Program.cellsOf, hi]⟩
    simp only [layout] at h
    split at h
    · split at h
      · cases h; exact key 1 (by assumption)
      · cases h
    · split at h
      · cases h; exact key 1 (by assumption)
      · cases h
    · simp only [Option.bind_eq_some_iff] at h
      obtain ⟨l, _, h⟩ := h
      split at h
      · cases h; exact key _ (by assumption)
      · cases h
    · simp only [Option.bind_eq_some_iff] at h
      obtain ⟨l, _, h⟩ := h
      split at h
      · rename_i hc
        cases h
        simp only [Bool.and_eq_true] at hc
        exact key _ (by simp only [Bool.and_eq_true]; exact hc.1.1)
      · cases h
    · cases h
theorem run_part_flat {d : Nat} {e : TypeId} {ls : List Leaf} (h : layout P d e = some ls) (cs : Array Value) (off : Nat) (hf : fitAll ls ((cs.toList.drop off).take ls.length) = true) :
    (part e cs off).run P w = .ok (asVal P e ((cs.toList.drop off).take ls.length)) w := by
  obtain ⟨i, hi, hs⟩ := layout_info h
  have hlen := fitAll_length hf
  cases d with
  | zero => simp [layout] at h
  | succ d =>
    have hex : (cs.extract off (off + ls.length)).toList = (cs.toList.drop off).take ls.length := by simp [List.drop_take]
    simp only [layout] at h
    unfold part asVal isAggB
    have one : ∀ (l : Leaf), ls = [l] → ∃ v, cs[off]? = some v ∧ (cs.toList.drop off).take ls.length = [v] := by
      intro l hl
      subst hl
      cases hd : cs.toList.drop off with
      | nil => rw [hd] at hlen; simp at hlen
      | cons v r =>
        refine ⟨v, ?_, by simp⟩
        have : (cs.toList.drop off)[0]? = some v := by rw [hd]; rfl
        simpa using this
    split at h
    · rename_i hu
      split at h
      · cases h
        obtain ⟨v, hv, he⟩ := one _ rfl
        simp only [Sem.run_bind, isAgg, run_underlying hu, Result.andThen_ok, Sem.run_pure, hu, Bool.false_eq_true, if_false, hv]
        rw [he]; rfl
      · cases h
    · rename_i hu
      split at h
      · cases h
        obtain ⟨v, hv, he⟩ := one _ rfl
        simp only [Sem.run_bind, isAgg, run_underlying hu, Result.andThen_ok, Sem.run_pure, hu, Bool.false_eq_true, if_false, hv]
        rw [he]; rfl
      · cases h
    · rename_i hu
      simp only [Sem.run_bind, isAgg, run_underlying hu, Result.andThen_ok, Sem.run_pure, hu, if_true, sizeOf, typeInfo, hi]
      simp only [Sem.run_bind, run_program, Result.andThen_ok, hi, Sem.run_pure, hs]
      rw [← hex]
    · rename_i hu
      simp only [Sem.run_bind, isAgg, run_underlying hu, Result.andThen_ok, Sem.run_pure, hu, if_true, sizeOf, typeInfo, hi]
      simp only [Sem.run_bind, run_program, Result.andThen_ok, hi, Sem.run_pure, hs]
      rw [← hex]
    · cases h
/-- What is to be shown of a type, at a depth. -/
def EqFlat (P : Program) (d : Nat) (t : TypeId) (ls : List Leaf) : Prop :=
  ∀ D, d ≤ D → ∀ (w : World) (xs ys : List Value), fitAll ls xs = true → fitAll ls ys = true → (Op.equalIn D t (asVal P t xs) (asVal P t ys)).run P w = .ok (cellsEq xs ys) w
theorem eqItems_flat {d D : Nat} {e : TypeId} {l : List Leaf} (hl : layout P d e = some l) (IH : EqFlat P d e l) (hD : d ≤ D) (hc : P.cellsOf e = l.length) (xs ys : Array Value) :
    ∀ (m k : Nat), fitAll (List.replicate m l).flatten (xs.toList.drop (k * l.length)) = true → fitAll (List.replicate m l).flatten (ys.toList.drop (k * l.length)) = true →
      (Op.eqItems D e (P.cellsOf e) xs ys (List.range' k m)).run P w = .ok (cellsEq (xs.toList.drop (k * l.length)) (ys.toList.drop (k * l.length))) w
  | 0, k, hx, hy => by
    have h1 : xs.toList.drop (k * l.length) = [] := List.length_eq_zero_iff.1 (by simpa using fitAll_length hx)
    have h2 : ys.toList.drop (k * l.length) = [] := List.length_eq_zero_iff.1 (by simpa using fitAll_length hy)
    rw [h1, h2]
    simp [Op.eqItems, cellsEq]
  | m + 1, k, hx, hy => by
    rw [List.replicate_succ, List.flatten_cons] at hx hy
    obtain ⟨x1, x2⟩ := fitAll_append hx
    obtain ⟨y1, y2⟩ := fitAll_append hy
    have hk : k * l.length + l.length = (k + 1) * l.length := by rw [Nat.add_mul]; omega
    rw [List.drop_drop, hk] at x2 y2
    have ih := eqItems_flat hl IH hD hc xs ys m (k + 1) x2 y2
    have ex : xs.toList.drop (k * l.length) = (xs.toList.drop (k * l.length)).take l.length ++ xs.toList.drop ((k + 1) * l.length) := by
      rw [← hk, ← List.drop_drop, List.take_append_drop]
    have ey : ys.toList.drop (k * l.length) = (ys.toList.drop (k * l.length)).take l.length ++ ys.toList.drop ((k + 1) * l.length) := by
      rw [← hk, ← List.drop_drop, List.take_append_drop]
    rw [ex, ey, cellsEq_append _ _ _ _ ((fitAll_length x1).trans (fitAll_length y1).symm)]
    simp only [List.range'_succ, Op.eqItems, Sem.run_bind]
    rw [hc] at ih ⊢
    rw [run_part_flat w hl xs (k * l.length) x1, Result.andThen_ok, run_part_flat w hl ys (k * l.length) y1, Result.andThen_ok, IH D hD w _ _ x1 y1, Result.andThen_ok]
    cases cellsEq ((xs.toList.drop (k * l.length)).take l.length) ((ys.toList.drop (k * l.length)).take l.length)
    · simp
    · simp only [Bool.not_true, Bool.false_eq_true, if_false, Bool.true_and]
      exact ih
theorem eqFields_flat {d D : Nat} (hD : d ≤ D) (xs ys : Array Value) :
    ∀ (fs : List Field) (ls : List (List Leaf)) (o : Nat), fs.mapM (fun f => layout P d f.type) = some ls → offsOk fs ls o = true → (∀ f l, f ∈ fs → layout P d f.type = some l → EqFlat P d f.type l) →
      fitAll ls.flatten (xs.toList.drop o) = true → fitAll ls.flatten (ys.toList.drop o) = true →
      (Op.eqFields D xs ys fs).run P w = .ok (cellsEq (xs.toList.drop o) (ys.toList.drop o)) w
  | [], ls, o, hm, _, _, hx, hy => by
    simp at hm
    subst hm
    have h1 : xs.toList.drop o = [] := List.length_eq_zero_iff.1 (by simpa using fitAll_length hx)
    have h2 : ys.toList.drop o = [] := List.length_eq_zero_iff.1 (by simpa using fitAll_length hy)
    rw [h1, h2]
    simp [Op.eqFields, cellsEq]
  | f :: fs, ls, o, hm, ho, IH, hx, hy => by
    rw [List.mapM_cons] at hm
    simp only [bind, Option.bind_eq_some_iff, pure, Option.some.injEq] at hm
    obtain ⟨l, hl, ls', hls, rfl⟩ := hm
    simp only [offsOk, Bool.and_eq_true, bne_iff_ne, beq_iff_eq] at ho
    obtain ⟨⟨hn, hoff⟩, ho⟩ := ho
    rw [List.flatten_cons] at hx hy
    obtain ⟨x1, x2⟩ := fitAll_append hx
    obtain ⟨y1, y2⟩ := fitAll_append hy
    rw [List.drop_drop] at x2 y2
    have ih := eqFields_flat hD xs ys fs ls' (o + l.length) hls ho (fun g l' hg => IH g l' (by simp [hg])) x2 y2
    have ex : xs.toList.drop o = (xs.toList.drop o).take l.length ++ xs.toList.drop (o + l.length) := by rw [← List.drop_drop, List.take_append_drop]
    have ey : ys.toList.drop o = (ys.toList.drop o).take l.length ++ ys.toList.drop (o + l.length) := by rw [← List.drop_drop, List.take_append_drop]
    rw [ex, ey, cellsEq_append _ _ _ _ ((fitAll_length x1).trans (fitAll_length y1).symm)]
    simp only [Op.eqFields, hn, ne_eq, not_false_eq_true, if_true, Sem.run_bind]
    rw [hoff, run_part_flat w hl xs o x1, Result.andThen_ok, run_part_flat w hl ys o y1, Result.andThen_ok, IH f l (by simp) hl D hD w _ _ x1 y1, Result.andThen_ok]
    cases cellsEq ((xs.toList.drop o).take l.length) ((ys.toList.drop o).take l.length)
    · simp
    · simp only [Bool.not_true, Bool.false_eq_true, if_false, Bool.true_and]
      exact ih
end
theorem run_equalIn_flat {P : Program} : ∀ (d : Nat) (t : TypeId) (ls : List Leaf), layout P d t = some ls → EqFlat P d t ls
  | 0, t, ls, h => by simp [layout] at h
  | d + 1, t, ls, h => by
    intro D hD w xs ys hx hy
    obtain ⟨D, rfl⟩ : ∃ E, D = E + 1 := ⟨D - 1, by omega⟩
    have hD' : d ≤ D := by omega
    simp only [layout] at h
    unfold asVal isAggB
    split at h
    · rename_i hu
      split at h
      · cases h
        obtain ⟨x, rfl, fx⟩ := fit_one hx
        obtain ⟨y, rfl, fy⟩ := fit_one hy
        · obtain ⟨a, rfl⟩ := fits_bool fx
          obtain ⟨b, rfl⟩ := fits_bool fy
          simp [hu, Op.equalIn, run_underlying hu, cellsEq, cellEq]
      · cases h
    · rename_i hu
      split at h
      · cases h
        obtain ⟨x, rfl, fx⟩ := fit_one hx
        obtain ⟨y, rfl, fy⟩ := fit_one hy
        · obtain ⟨a, rfl⟩ := fits_int fx
          obtain ⟨b, rfl⟩ := fits_int fy
          simp [hu, Op.equalIn, run_underlying hu, cellsEq, cellEq]
      · cases h
    · rename_i n e hu
      simp only [Option.bind_eq_some_iff] at h
      obtain ⟨l, hl, h⟩ := h
      split at h
      · cases h
        obtain ⟨i, hi, hs⟩ := layout_info hl
        simp only [hu, if_true]
        rw [run_equalIn_array w D _ _ hu hi, List.range_eq_range']
        have := eqItems_flat w hl (run_equalIn_flat d e l hl) hD' (by simp [Program.cellsOf, hi, hs]) xs.toArray ys.toArray n 0 (by simpa using hx) (by simpa using hy)
        simpa using this
      · cases h
    · rename_i fs hu
      simp only [Option.bind_eq_some_iff] at h
      obtain ⟨l, hl, h⟩ := h
      split at h
      · rename_i hc
        cases h
        simp only [Bool.and_eq_true, Bool.not_eq_true'] at hc
        have hfs : P.fieldsOf t = fs := by simp [Program.fieldsOf, hu]
        simp only [hu, if_true]
        rw [run_equalIn_struct w D t _ _ (by rw [hfs]; exact hu) hc.2, hfs]
        have := eqFields_flat w hD' xs.toArray ys.toArray fs.toList l 0 hl hc.1.2 (fun f l' _ h' => run_equalIn_flat d f.type l' h') (by simpa using hx) (by simpa using hy)
        simpa using this
      · cases h
    · cases h
attribute [go_sem] cellsEq cellEq
/-- '==' of two values of such a type, as the walk meets it. -/
theorem eq_flat {P : Program} (t : TypeId) (d : Nat) (ls : List Leaf) (hl : layout P d t = some ls) (hd : d ≤ 10000) (ha : isAggB P t = true) (xs ys : List Value) (hx : fitAll ls xs = true) (hy : fitAll ls ys = true) (w : World) :
    (Op.equalIn 10000 t (.agg xs.toArray) (.agg ys.toArray)).run P w = .ok (cellsEq xs ys) w := by
  have h := run_equalIn_flat d t ls hl 10000 hd w xs ys hx hy
  unfold asVal at h
  simpa [ha] using h
end Go
end

section
namespace Go
open Go.RowKit
theorem bcell {W w1 : World} (hb : Below W.heap.size W w1) : (∀ b o, b < W.heap.size → w1.cell? ⟨b, o, none⟩ = W.cell? ⟨b, o, none⟩) ∧ (∀ b o, b < W.heap.size → w1.frozen? ⟨b, o, none⟩ = W.frozen? ⟨b, o, none⟩) :=
  ⟨fun b o h => hb.cell (p := ⟨b, o, none⟩) h, fun b o h => hb.frozen (p := ⟨b, o, none⟩) h⟩
theorem alloc_at (w : World) (o : Obj) : (w.alloc o).heap[w.heap.size]? = some o := by show (w.heap.push o)[w.heap.size]? = _; simp
/-- U: what stands in each operation's slot. -/
def fillPuts : List Oper → (Nat → Value) → Nat → Act → Act
  | [], _, _, a => a
  | o :: l, U, i, a => fillPuts l U (i + 1) (a.put o.dst (U i))
def updU (U : Nat → Value) (i : Nat) (v : Value) : Nat → Value := fun j => if j = i then v else U j
def maskU (S : List Nat) (U : Nat → Value) : Nat → Value := fun j => if S.contains j then U j else undef
def predsOf (o : Oper) : List Nat := o.after.toList.filterMap fun e => if Region.binds .any e then some e.on else none
def slotOf (a : Act) (dst : Option Tmp) : Value := match dst with | some d => a.tmps.getD d undef | none => undef
abbrev RelU := (Nat → Value) → World → Prop
def HypsU (Rs : List RelU) (U : Nat → Value) (w : World) : List Nat → Prop
  | [] => True
  | p :: ps => (Rs.getD p fun _ _ => True) U w ∧ HypsU Rs U w ps
def AllU (U : Nat → Value) (w : World) : List RelU → Prop
  | [] => True
  | r :: rs => r U w ∧ AllU U w rs
def InvPost (T : World → World → Prop) (d : List Deferred) (w : World) (dst : Option Tmp) (G : Value → World → Prop) (e : Exit) (a' : Act) (w' : World) : Prop :=
  e = .normal ∧ a'.defers = d ∧ T w w' ∧ G (slotOf a' dst) w'
/-- The block that a value points into. -/
def blkOf : Value → Option Nat
  | .pointer (some a) => some a.block
  | .slice (some a) _ _ => some a.block
  | .map (some m) => some m
  | _ => none
/-- A value that points into a block made between two worlds. -/
def FreshV (v : Value) (w w' : World) : Prop := ∃ p, blkOf v = some p ∧ w.heap.size ≤ p ∧ p < w'.heap.size
/-- The fresh values differ. -/
def ApartF (F : List Nat) (U : Nat → Value) : Prop := ∀ i j, F.contains i = true → F.contains j = true → i ≠ j → blkOf (U i) ≠ blkOf (U j)
section
variable {P : Program} {ops : Array Oper}
/-- The walk: for each operation of the head what holds of its value. -/
def wpInv (P : Program) (ops : Array Oper) (F : List Nat) (C : World → Prop) (T : World → World → Prop) (hd : List Oper) (a0 : Act) (fin : (Nat → Value) → World → Prop) : Nat → List RelU → List Oper → Prop
  | _, Rs, [] => ∀ U w, C w → AllU U w Rs → ApartF F U → fin U w
  | i, Rs, o :: rest => ∃ r : RelU, (∀ U w, r U w = r (maskU (i :: predsOf o) U) w) ∧ (∀ U w w', C w → T w w' → r U w → r U w') ∧
      (∀ U w, C w → HypsU Rs U w (predsOf o) → wpList P ops (InvPost T a0.defers w o.dst fun v w' => r (updU U i v) w' ∧ (F.contains i = true → FreshV v w w')) [o] (fillPuts hd U 0 a0) w) ∧
      wpInv P ops F C T hd a0 fin (i + 1) (Rs ++ [r]) rest
theorem fillPuts_defers : ∀ (l : List Oper) (U : Nat → Value) (i : Nat) (a : Act), (fillPuts l U i a).defers = a.defers
  | [], _, _, _ => rfl
  | o :: l, U, i, a => by
    rw [fillPuts, fillPuts_defers l]
    unfold Act.put; split <;> rfl
theorem Act.put_put (a : Act) (d : Option Tmp) (u v : Value) : (a.put d u).put d v = a.put d v := by
  unfold Act.put
  cases d with
  | none => rfl
  | some d => simp
/-- No slot is written twice. -/
def distinctDst : List Oper → Bool
  | [] => true
  | o :: l => (match o.dst with | some d => l.all (fun p => p.dst != some d) | none => true) && distinctDst l
theorem put_fill_comm {d : Option Tmp} {v : Value} : ∀ (l : List Oper) (U : Nat → Value) (i : Nat) (a : Act), (∀ t, d = some t → l.all (fun p => p.dst != some t) = true) →
    fillPuts l U i (a.put d v) = (fillPuts l U i a).put d v
  | [], _, _, _, _ => rfl
  | o :: l, U, i, a, h => by
    simp only [fillPuts]
    rw [← put_fill_comm l U (i + 1) (a.put o.dst (U i)) (fun t ht => by
      have := h t ht
      simp only [List.all_cons, Bool.and_eq_true] at this
      exact this.2)]
    congr 1
    refine Act.put_comm a v (U i) ?_
    intro t ht ht2
    have := h t ht
    simp only [List.all_cons, Bool.and_eq_true, bne_iff_ne, ne_eq] at this
    exact this.1 ht2
theorem fillPuts_upd_lt : ∀ (l : List Oper) (U : Nat → Value) (k i : Nat) (v : Value) (a : Act), k < i → fillPuts l (updU U k v) i a = fillPuts l U i a
  | [], _, _, _, _, _, _ => rfl
  | o :: l, U, k, i, v, a, h => by
    simp only [fillPuts]
    rw [fillPuts_upd_lt l U k (i + 1) v _ (by omega)]
    have : updU U k v i = U i := by unfold updU; rw [if_neg (by omega)]
    rw [this]
theorem fillPuts_put : ∀ (l : List Oper) (U : Nat → Value) (i k : Nat) (o : Oper) (v : Value) (a : Act), distinctDst l = true → l[k]? = some o →
    (fillPuts l U i a).put o.dst v = fillPuts l (updU U (i + k) v) i a
  | [], _, _, _, _, _, _, _, h => by simp at h
  | p :: l, U, i, 0, o, v, a, hd, h => by
    obtain rfl : p = o := by simpa using h
    simp only [distinctDst, Bool.and_eq_true] at hd
    simp only [fillPuts, Nat.add_zero]
    rw [fillPuts_upd_lt l U i (i + 1) v _ (by omega), ← put_fill_comm l U (i + 1) _ (fun t ht => by have := hd.1; rw [ht] at this; simpa using this), Act.put_put]
    have : updU U i v i = v := by unfold updU; rw [if_pos rfl]
    rw [this]
  | p :: l, U, i, k + 1, o, v, a, hd, h => by
    simp only [distinctDst, Bool.and_eq_true] at hd
    simp only [fillPuts]
    rw [fillPuts_put l U (i + 1) k o v _ hd.2 (by simpa using h), show i + 1 + k = i + (k + 1) by omega]
    have : updU U (i + (k + 1)) v i = U i := by unfold updU; rw [if_neg (by omega)]
    rw [this]
theorem put_slot (a : Act) (d : Option Tmp) (v : Value) : a.put d (slotOf (a.put d v) d) = a.put d v := by
  cases d with
  | none => rfl
  | some d =>
    simp only [Act.put, slotOf]
    by_cases h : d < a.tmps.size
    · simp [h]
    · rw [Array.setIfInBounds_eq_of_size_le (Nat.le_of_not_lt h), Array.setIfInBounds_eq_of_size_le (Nat.le_of_not_lt h)]
theorem updU_eq (U : Nat → Value) (i : Nat) (v : Value) : updU U i v i = v := by unfold updU; rw [if_pos rfl]
theorem maskU_upd {S : List Nat} {U : Nat → Value} {i : Nat} {v : Value} (h : S.contains i = false) : maskU S (updU U i v) = maskU S U := by
  funext j
  unfold maskU updU
  by_cases e : j = i
  · subst e; rw [h]; rfl
  · rw [if_neg e]
theorem wpOp_of_list_inv {i : Nat} {o : Oper} {K : Act → World → Prop} {Q : Exit → Act → World → Prop} {a : Act} {w : World} {T : World → World → Prop} {d : List Deferred} {G : Value → World → Prop}
    (hi : ops[i]? = some o) (hd : a.defers = d)
    (hK : ∀ v w', T w w' → G (slotOf (a.put o.dst v) o.dst) w' → K (a.put o.dst v) w')
    (h : wpList P ops (InvPost T d w o.dst G) [o] a w) : wpOp P ops Q i K a w := by
  have hQ : ∀ v w', InvPost T d w o.dst G .normal (a.put o.dst v) w' → K (a.put o.dst v) w' := fun v w' h => hK v w' h.2.2.1 h.2.2.2
  have hF : ¬ LetsOut (InvPost T d w o.dst G) := by
    rintro ⟨a1, w1, h1⟩
    exact absurd h1.1 (by simp)
  unfold wpOp
  simp only [hi]
  unfold wpList at h
  split
  · rename_i hw
    rw [if_pos hw] at h
    rcases h with h | ⟨_, h⟩
    · refine .inl ?_
      unfold Oper.wp at *
      generalize (execOp a.eval o).run P w = r at *
      cases r with
      | ok n w' =>
        cases n <;> simp only [Oper.upon] at h ⊢
        case value u => exact hQ _ _ h
        case skip => exact hQ _ _ h
        case defer c =>
          have h2 : (({ a with defers := c :: a.defers } : Act).put o.dst undef).defers = d := h.2.1
          have h3 : (({ a with defers := c :: a.defers } : Act).put o.dst undef).defers = c :: a.defers := by unfold Act.put; split <;> rfl
          rw [h3, ← hd] at h2
          exact absurd (congrArg List.length h2) (by simp)
        case enter f args =>
          refine Calls.mono h fun e w'' he => ?_
          cases e with
          | returned u => exact hQ _ _ he
          | panicked c => exact absurd he.1 (by simp)
          | outgrown => exact absurd he hF
        case row row args => exact Rows.mono h fun u w'' he => hQ _ _ he
      | halt x w' =>
        cases x <;> simp only [Oper.upon] at h ⊢
        case panic u => exact absurd h.1 (by simp)
    · exact absurd h hF
  · rename_i hw
    rw [if_neg hw] at h
    exact hQ _ _ h
theorem wpList_post {o : Oper} {a : Act} {w : World} {T : World → World → Prop} {d : List Deferred} {dst : Option Tmp} {G G' : Value → World → Prop}
    (hG : ∀ a' w', InvPost T d w dst G .normal a' w' → InvPost T d w dst G' .normal a' w') (h : wpList P ops (InvPost T d w dst G) [o] a w) : wpList P ops (InvPost T d w dst G') [o] a w := by
  have hF : ¬ LetsOut (InvPost T d w dst G) := by
    rintro ⟨a1, w1, h1⟩
    exact absurd h1.1 (by simp)
  unfold wpList at h ⊢
  split
  · rename_i hw
    rw [if_pos hw] at h
    rcases h with h | ⟨_, h⟩
    · refine .inl ?_
      unfold Oper.wp at *
      generalize (execOp a.eval o).run P w = r at *
      cases r with
      | ok n w' =>
        cases n <;> simp only [Oper.upon] at h ⊢
        case value u => exact hG _ _ h
        case skip => exact hG _ _ h
        case defer c => exact hG _ _ h
        case enter f args =>
          refine Calls.mono h fun e w'' he => ?_
          cases e with
          | returned u => exact hG _ _ he
          | panicked c => exact absurd he.1 (by simp)
          | outgrown => exact absurd he hF
        case row row args => exact Rows.mono h fun u w'' he => hG _ _ he
      | halt x w' =>
        cases x <;> simp only [Oper.upon] at h ⊢
        case panic u => exact absurd h.1 (by simp)
    · exact absurd h hF
  · rename_i hw
    rw [if_neg hw] at h
    exact hG _ _ h
/-- Every edge leads back. -/
def backB (ops : Array Oper) : Bool := (List.range ops.size).all fun i => ((ops[i]?).map fun o => o.after.all fun e => !Region.binds .any e || decide (e.on < i)).getD true
def seqAfter (ops : Array Oper) (n : Nat) : Bool := Region.seqB .any ops (ops.size - n) n ((List.range ops.size).map fun i => decide (i < n)).toArray
def invB (ops : Array Oper) (n : Nat) : Bool :=
  decide (n < ops.size) && Region.sinkB .any ops n && Region.chainB .any ops n && backB ops && distinctDst (ops.toList.take n) && seqAfter ops n
theorem backB_spec (h : backB ops = true) {i : Nat} {o : Oper} (ho : ops[i]? = some o) : ∀ e ∈ o.after, Region.binds .any e = true → e.on < i := by
  intro e he hb
  have hlt : i < ops.size := (Array.getElem?_eq_some_iff.1 ho).1
  have h1 := List.all_eq_true.1 h i (List.mem_range.2 hlt)
  rw [ho] at h1
  simp only [Option.map_some, Option.getD_some, Array.all_eq_true_iff_forall_mem, Bool.or_eq_true, Bool.not_eq_true', decide_eq_true_eq] at h1
  rcases h1 e he with h2 | h2
  · rw [hb] at h2; cases h2
  · exact h2
theorem of_mem_predsOf {o : Oper} {p : Nat} (h : p ∈ predsOf o) : ∃ e ∈ o.after, Region.binds .any e = true ∧ e.on = p := by
  unfold predsOf at h
  rw [List.mem_filterMap] at h
  obtain ⟨e, he, h2⟩ := h
  split at h2
  · rename_i hb
    exact ⟨e, by simpa using he, hb, by simpa using h2⟩
  · cases h2
/-- What is known of a head: each operation's relation, that it looks at no other's value, that it stays, and its step. -/
structure HeadOK (P : Program) (ops : Array Oper) (F : List Nat) (C : World → Prop) (T : World → World → Prop) (hd : List Oper) (a0 : Act) (Rs : List RelU) : Prop where
  len : Rs.length = hd.length
  loc : ∀ j o, hd[j]? = some o → ∀ U w, (Rs.getD j fun _ _ => True) U w = (Rs.getD j fun _ _ => True) (maskU (j :: predsOf o) U) w
  stay : ∀ j U w w', C w → T w w' → (Rs.getD j fun _ _ => True) U w → (Rs.getD j fun _ _ => True) U w'
  step : ∀ j o, hd[j]? = some o → ∀ U w, C w → HypsU Rs U w (predsOf o) → wpList P ops (InvPost T a0.defers w o.dst fun v w' => (Rs.getD j fun _ _ => True) (updU U j v) w' ∧ (F.contains j = true → FreshV v w w')) [o] (fillPuts hd U 0 a0) w
theorem hypsU_append {Rs : List RelU} {more : List RelU} {U : Nat → Value} {w : World} : ∀ (ps : List Nat), (∀ p ∈ ps, p < Rs.length) → HypsU (Rs ++ more) U w ps → HypsU Rs U w ps
  | [], _, _ => trivial
  | p :: ps, hl, h => by
    refine ⟨?_, hypsU_append ps (fun q hq => hl q (by simp [hq])) h.2⟩
    have := h.1
    rwa [List.getD_eq_getElem?_getD, List.getElem?_append_left (hl p (by simp)), ← List.getD_eq_getElem?_getD] at this
theorem wpInv_ok {F : List Nat} {C : World → Prop} {T : World → World → Prop} {hd : List Oper} {a0 : Act} {fin : (Nat → Value) → World → Prop}
    (hback : ∀ j o, hd[j]? = some o → ∀ p ∈ predsOf o, p < j) :
    ∀ (rest : List Oper) (i : Nat) (Rs : List RelU), Rs.length = i → hd.drop i = rest → i ≤ hd.length →
      (∀ j o, j < i → hd[j]? = some o → ∀ U w, (Rs.getD j fun _ _ => True) U w = (Rs.getD j fun _ _ => True) (maskU (j :: predsOf o) U) w) →
      (∀ j U w w', j < i → C w → T w w' → (Rs.getD j fun _ _ => True) U w → (Rs.getD j fun _ _ => True) U w') →
      (∀ j o, j < i → hd[j]? = some o → ∀ U w, C w → HypsU Rs U w (predsOf o) → wpList P ops (InvPost T a0.defers w o.dst fun v w' => (Rs.getD j fun _ _ => True) (updU U j v) w' ∧ (F.contains j = true → FreshV v w w')) [o] (fillPuts hd U 0 a0) w) →
      wpInv P ops F C T hd a0 fin i Rs rest → ∃ Rs', HeadOK P ops F C T hd a0 Rs' ∧ ∀ U w, C w → AllU U w Rs' → ApartF F U → fin U w
  | [], i, Rs, hl, hdrop, hle, h1, h2, h3, h => by
    have hi : hd.length = i := by
      have := congrArg List.length hdrop
      simp at this
      omega
    refine ⟨Rs, ⟨by omega, fun j o hj => h1 j o (by rw [← hi]; exact (List.getElem?_eq_some_iff.1 hj).1) hj, fun j U w w' => ?_, fun j o hj => h3 j o (by rw [← hi]; exact (List.getElem?_eq_some_iff.1 hj).1) hj⟩, h⟩
    by_cases hj : j < i
    · exact h2 j U w w' hj
    · intro _ _ _
      rw [List.getD_eq_getElem?_getD, List.getElem?_eq_none (by omega)]
      trivial
  | o :: rest, i, Rs, hl, hdrop, hle, h1, h2, h3, h => by
    obtain ⟨r, ha, hb, hc, hn⟩ := h
    have hoi : hd[i]? = some o := by
      have := congrArg (fun l => l[0]?) hdrop
      simpa using this
    have hlt : i < hd.length := (List.getElem?_eq_some_iff.1 hoi).1
    have gl : ∀ j, j < i → (Rs ++ [r]).getD j (fun _ _ => True) = Rs.getD j (fun _ _ => True) := fun j hj => by
      rw [List.getD_eq_getElem?_getD, List.getElem?_append_left (by omega), ← List.getD_eq_getElem?_getD]
    have gi : (Rs ++ [r]).getD i (fun _ _ => True) = r := by
      rw [List.getD_eq_getElem?_getD, List.getElem?_append_right (by omega)]
      simp [hl]
    refine wpInv_ok hback rest (i + 1) (Rs ++ [r]) (by simp [hl]) ?_ (by omega) ?_ ?_ ?_ hn
    · rw [← List.drop_drop, hdrop]; rfl
    · intro j p hj hp U w
      by_cases e : j = i
      · subst e
        rw [gi]
        obtain rfl : p = o := Option.some.inj (hp.symm.trans hoi)
        exact ha U w
      · rw [gl j (by omega)]; exact h1 j p (by omega) hp U w
    · intro j U w w' hj
      by_cases e : j = i
      · subst e; rw [gi]; exact hb U w w'
      · rw [gl j (by omega)]; exact h2 j U w w' (by omega)
    · intro j p hj hp U w hC hH
      have hp' : ∀ q ∈ predsOf p, q < Rs.length := fun q hq => by have := hback j p hp q hq; omega
      have hH' := hypsU_append (predsOf p) hp' hH
      by_cases e : j = i
      · subst e
        rw [gi]
        obtain rfl : p = o := Option.some.inj (hp.symm.trans hoi)
        exact hc U w hC hH'
      · rw [gl j (by omega)]
        exact h3 j p (by omega) hp U w hC hH'
theorem hypsU_of {Rs : List RelU} {U : Nat → Value} {w : World} : ∀ (ps : List Nat), (∀ p ∈ ps, (Rs.getD p fun _ _ => True) U w) → HypsU Rs U w ps
  | [], _ => trivial
  | p :: ps, h => ⟨h p (by simp), hypsU_of ps fun q hq => h q (by simp [hq])⟩
theorem allU_of {U : Nat → Value} {w : World} : ∀ (Rs : List RelU), (∀ j, j < Rs.length → (Rs.getD j fun _ _ => True) U w) → AllU U w Rs
  | [], _ => trivial
  | r :: rs, h => ⟨by simpa using h 0 (by simp), allU_of rs fun j hj => by simpa using h (j + 1) (by simpa using hj)⟩
theorem wpAny_of_inv {F : List Nat} {C : World → Prop} {T : World → World → Prop} {n : Nat} {a0 : Act} {Rs : List RelU} {Q : Exit → Act → World → Prop} {l : List Oper} (hops : ops = l.toArray) (hB : invB ops n = true)
    (hCT : ∀ w w', C w → T w w' → C w') (hTs : ∀ w w', T w w' → w.heap.size ≤ w'.heap.size) (hFn : F.all (fun i => decide (i < n)) = true) (hOK : HeadOK P ops F C T (l.take n) a0 Rs)
    (hfin : ∀ U w, C w → AllU U w Rs → ApartF F U → wpList P ops Q (l.drop n) (fillPuts (l.take n) U 0 a0) w) :
    ∀ (f : Nat) (L : List Nat) (listed : Array Bool) (U : Nat → Value) (w : World), L.Nodup → L.length = f → (∀ j, j ∈ L ↔ j < n ∧ listed.getD j true = false) → HeadInv .any ops n listed → C w →
      (∀ j, j < n → listed.getD j false = true → (Rs.getD j fun _ _ => True) U w) → (∀ j, F.contains j = true → listed.getD j false = true → ∃ p, blkOf (U j) = some p ∧ p < w.heap.size) →
      (∀ i j, F.contains i = true → F.contains j = true → i ≠ j → listed.getD i false = true → listed.getD j false = true → blkOf (U i) ≠ blkOf (U j)) → wpAny P .any ops Q (f + (ops.size - n)) listed (fillPuts (l.take n) U 0 a0) w := by
  simp only [invB, Bool.and_eq_true, decide_eq_true_eq] at hB
  obtain ⟨⟨⟨⟨⟨hn, hs⟩, hc⟩, hback⟩, hdist⟩, hseq⟩ := hB
  have hlen : (l.take n).length = n := by subst hops; simp at hn ⊢; omega
  have hdl : (l.drop n).length = ops.size - n := by subst hops; simp
  intro f
  induction f with
  | zero =>
    intro L listed U w hnd hL hmem inv hC hR hFb hFd
    have hL0 : L = [] := List.length_eq_zero_iff.1 hL
    subst hL0
    have hall : ∀ j, j < n → listed.getD j true = true := fun j hj => by
      cases h : listed.getD j true with
      | true => rfl
      | false => exact absurd ((hmem j).2 ⟨hj, h⟩) (by simp)
    have hlisted : listed = ((List.range ops.size).map fun i => decide (i < n)).toArray := by
      apply Array.ext
      · simp [inv.size]
      · intro i h1 h2
        simp only [List.getElem_toArray, List.getElem_map, List.getElem_range]
        by_cases hi : i < n
        · have := hall i hi
          simp [h1] at this
          simp [this, hi]
        · have := inv.tail i (by omega) (by rw [← inv.size]; exact h1)
          simp [h1] at this
          simp [this, hi]
    rw [Nat.zero_add, ← hdl]
    refine wpAny_of_seq (l.drop n) n listed _ w (fun j => by subst hops; simp [List.getElem?_drop]) (by rw [hdl, hlisted]; exact hseq) ?_
    have hallf : ∀ j, j < n → listed.getD j false = true := fun j hjn => by
      have := hall j hjn
      have hjs : j < listed.size := by rw [inv.size]; omega
      simp [hjs] at this ⊢
      exact this
    have hFn' : ∀ j, F.contains j = true → j < n := fun j hj => by
      have := List.all_eq_true.1 hFn j (List.contains_iff_mem.1 hj)
      simpa using this
    refine hfin U w hC (allU_of Rs fun j hj => hR j (by rw [hOK.len, hlen] at hj; exact hj) (hallf j (by rw [hOK.len, hlen] at hj; exact hj))) (fun i j hi hj hij => hFd i j hi hj hij (hallf i (hFn' i hi)) (hallf j (hFn' j hj)))
  | succ f ih =>
    intro L listed U w hnd hL hmem inv hC hR hFb hFd
    have hne : L ≠ [] := fun h => by subst h; simp at hL
    obtain ⟨i0, hi0⟩ := List.exists_mem_of_ne_nil L hne
    obtain ⟨hi0n, hi0u⟩ := (hmem i0).1 hi0
    -- the least one that is not listed may come up
    have hready : Region.ready .any ops listed ≠ [] := by
      have key : ∀ (d i : Nat), i ≤ d → i < n → listed.getD i true = false → Region.ready .any ops listed ≠ [] := by
        intro d
        induction d with
        | zero =>
          intro i hid hin hiu
          have hi : i = 0 := by omega
          subst hi
          have hlt : 0 < ops.size := by omega
          intro h
          have : 0 ∈ Region.ready .any ops listed := mem_ready.2 ⟨hiu, ops[0], by simp [hlt], fun e he hb => absurd (backB_spec hback (i := 0) (by simp [hlt]) e he hb) (by omega)⟩
          rw [h] at this; cases this
        | succ d ihd =>
          intro i hid hin hiu
          have hlt : i < ops.size := by omega
          by_cases hex : ∃ e ∈ ops[i].after, Region.binds .any e = true ∧ listed.getD e.on false = false
          · obtain ⟨e, he, hb, hu⟩ := hex
            have hlt2 := backB_spec hback (i := i) (by simp [hlt]) e he hb
            exact ihd e.on (by omega) (by omega) (getD_in (by rw [inv.size]; omega) hu)
          · intro h
            have : i ∈ Region.ready .any ops listed := mem_ready.2 ⟨hiu, ops[i], by simp [hlt], fun e he hb => by
              cases h' : listed.getD e.on false with
              | true => rfl
              | false => exact absurd ⟨e, he, hb, h'⟩ hex⟩
            rw [h] at this; cases this
      exact key i0 i0 (Nat.le_refl _) hi0n hi0u
    rw [show f + 1 + (ops.size - n) = (f + (ops.size - n)) + 1 by omega]
    refine ⟨fun h => absurd h hready, fun i hi => ?_⟩
    obtain ⟨hiu, o, ho, hall⟩ := mem_ready.1 hi
    have hin : i < n := by
      rcases Nat.lt_or_ge i n with h | h
      · exact h
      · exact absurd hi (tail_waits hs hc hn inv _ i0 rfl hi0n hi0u i h)
    have hio : (l.take n)[i]? = some o := by
      subst hops
      rw [List.getElem?_take_of_lt hin]
      simpa using ho
    have hp : ∀ p ∈ predsOf o, p < n ∧ listed.getD p false = true := fun p hp => by
      obtain ⟨e, he, hb, rfl⟩ := of_mem_predsOf hp
      have := backB_spec hback ho e he hb
      exact ⟨by omega, hall e he hb⟩
    have hstep := hOK.step i o hio U w hC (hypsU_of _ fun p hpp => hR p (hp p hpp).1 (hp p hpp).2)
    refine wpOp_of_list_inv ho (fillPuts_defers _ _ _ _) (fun v w' hT hG => ?_) hstep
    have hC' := hCT w w' hC hT
    rw [← put_slot, fillPuts_put (l.take n) U 0 i o _ a0 (by subst hops; simpa using hdist) hio, Nat.zero_add]
    refine ih (L.erase i) (listed.setIfInBounds i true) _ w' (hnd.erase i) (by rw [List.length_erase_of_mem ((hmem i).2 ⟨hin, hiu⟩), hL]; rfl) (fun j => ?_) (inv.set hi hin) hC' (fun j hj hjl => ?_) ?_ ?_
    · rw [hnd.mem_erase_iff, hmem j]
      by_cases e : i = j
      · subst e
        constructor
        · rintro ⟨h, _⟩; exact absurd rfl h
        · rintro ⟨_, h⟩
          have hsz : i < listed.size := by rw [inv.size]; omega
          simp [hsz] at h
      · rw [getD_set_ne true e]
        constructor
        · rintro ⟨_, h⟩; exact h
        · intro h; exact ⟨fun h' => e h'.symm, h⟩
    · by_cases e : i = j
      · subst e; exact hG.1
      · rw [getD_set_ne false e] at hjl
        have hj1 := hOK.stay j U w w' hC hT (hR j hj hjl)
        have hjs : j < ops.size := by omega
        obtain ⟨oj, hoj⟩ : ∃ oj, ops[j]? = some oj := ⟨ops[j], by simp [hjs]⟩
        have hjo : (l.take n)[j]? = some oj := by
          subst hops
          rw [List.getElem?_take_of_lt hj]
          simpa using hoj
        have hni : (j :: predsOf oj).contains i = false := by
          rw [Bool.eq_false_iff]
          intro h
          rcases List.mem_cons.1 (List.contains_iff_mem.1 h) with h | h
          · exact e h
          · obtain ⟨e', he', hb', rfl⟩ := of_mem_predsOf h
            have := inv.closed j oj hoj hjl e' he' hb'
            rw [getD_both hiu] at this
            cases this
        rw [hOK.loc j oj hjo, maskU_upd hni, ← hOK.loc j oj hjo]
        exact hj1
    · intro j hj hjl
      by_cases e : i = j
      · subst e
        obtain ⟨p, hp1, _, hp2⟩ := hG.2 hj
        exact ⟨p, by rw [updU_eq]; exact hp1, hp2⟩
      · rw [getD_set_ne false e] at hjl
        obtain ⟨p, hp1, hp2⟩ := hFb j hj hjl
        refine ⟨p, ?_, Nat.lt_of_lt_of_le hp2 (hTs _ _ hT)⟩
        have : updU U i (slotOf (fillPuts (l.take n) U 0 a0 |>.put o.dst v) o.dst) j = U j := by unfold updU; rw [if_neg (fun h => e h.symm)]
        rw [this]; exact hp1
    · intro j k hj hk hjk hjl hkl
      have old : ∀ q, i ≠ q → updU U i (slotOf (fillPuts (l.take n) U 0 a0 |>.put o.dst v) o.dst) q = U q := fun q e => by unfold updU; rw [if_neg (fun h => e h.symm)]
      by_cases e : i = j
      · subst e
        have e2 : i ≠ k := hjk
        rw [getD_set_ne false e2] at hkl
        obtain ⟨p, hp1, hp2, _⟩ := hG.2 hj
        obtain ⟨q, hq1, hq2⟩ := hFb k hk hkl
        rw [updU_eq, old k e2, hp1, hq1]
        intro h
        have := Option.some.inj h
        omega
      · rw [getD_set_ne false e] at hjl
        by_cases e2 : i = k
        · subst e2
          obtain ⟨p, hp1, hp2, _⟩ := hG.2 hk
          obtain ⟨q, hq1, hq2⟩ := hFb j hj hjl
          rw [updU_eq, old j e, hp1, hq1]
          intro h
          have := Option.some.inj h
          omega
        · rw [getD_set_ne false e2] at hkl
          rw [old j e, old k e2]
          exact hFd j k hj hk hjk hjl hkl
/-- An operation whose value hangs on the values ahead of it alone. -/
theorem wpInv_det {F : List Nat} {C : World → Prop} {T : World → World → Prop} {hd : List Oper} {a0 : Act} {fin : (Nat → Value) → World → Prop} {i : Nat} {Rs : List RelU} {o : Oper} {rest : List Oper} (hp : (predsOf o).contains i = false) (hF : F.contains i = false)
    (h : ∃ f : (Nat → Value) → Value, (∀ U w, C w → HypsU Rs U w (predsOf o) → wpList P ops (InvPost T a0.defers w o.dst fun v _ => v = f U) [o] (fillPuts hd U 0 a0) w) ∧
      (∀ U, f U = f (maskU (predsOf o) U)) ∧ wpInv P ops F C T hd a0 fin (i + 1) (Rs ++ [fun U _ => U i = f U]) rest) : wpInv P ops F C T hd a0 fin i Rs (o :: rest) := by
  obtain ⟨f, h1, h2, h3⟩ := h
  have e1 : ∀ U, maskU (predsOf o) (maskU (i :: predsOf o) U) = maskU (predsOf o) U := fun U => by
    funext j
    unfold maskU
    by_cases hj : (predsOf o).contains j = true
    · rw [if_pos hj, if_pos hj, if_pos (by simp at hj ⊢; exact .inr hj)]
    · rw [if_neg hj, if_neg hj]
  refine ⟨fun U _ => U i = f U, fun U w => ?_, fun _ _ _ _ _ h => h, fun U w hC hH => ?_, h3⟩
  · have e2 : maskU (i :: predsOf o) U i = U i := by unfold maskU; rw [if_pos (by simp)]
    have e3 : f (maskU (i :: predsOf o) U) = f U := by rw [h2, e1, ← h2]
    show (U i = f U) = (maskU (i :: predsOf o) U i = f (maskU (i :: predsOf o) U))
    rw [e2, e3]
  · refine wpList_post (fun a' w' hq => ?_) (h1 U w hC hH)
    refine ⟨hq.1, hq.2.1, hq.2.2.1, ?_, fun h => by rw [hF] at h; cases h⟩
    have hq4 := hq.2.2.2
    show updU U i (slotOf a' o.dst) i = f (updU U i (slotOf a' o.dst))
    rw [updU_eq, hq4, h2 (updU U i (f U)), maskU_upd hp, ← h2]
/-- What stands in the slots at the beginning. -/
theorem fillPuts_start : ∀ (l : List Oper) (i : Nat) (a : Act), ∃ U, fillPuts l U i a = a
  | [], _, a => ⟨fun _ => undef, rfl⟩
  | o :: l, i, a => by
    obtain ⟨U, hU⟩ := fillPuts_start l (i + 1) a
    refine ⟨updU U i (slotOf a o.dst), ?_⟩
    simp only [fillPuts, updU_eq]
    rw [fillPuts_upd_lt l U i (i + 1) _ _ (by omega)]
    have : a.put o.dst (slotOf a o.dst) = a := by
      unfold Act.put slotOf
      cases o.dst with
      | none => rfl
      | some d =>
        simp only
        by_cases h : d < a.tmps.size
        · obtain ⟨tm, df⟩ := a
          congr 1
          apply Array.ext
          · simp
          · intro k h1 h2
            rw [Array.getElem_setIfInBounds]
            split
            · rename_i e; subst e; simp
            · rfl
        · rw [Array.setIfInBounds_eq_of_size_le (Nat.le_of_not_lt h)]
    rw [this]
    exact hU
theorem wp_region_inv {id : Nat} {Q : Exit → Act → World → Prop} {a : Act} {w : World} {l : List Oper} (F : List Nat) (C : World → Prop) (T : World → World → Prop) (n : Nat) (hm : P.follows .mixedOrders = true) (hB : invB l.toArray n = true)
    (hFn : F.all (fun i => decide (i < n)) = true) (hC : C w.drew) (hCT : ∀ w w', C w → T w w' → C w') (hTs : ∀ w w', T w w' → w.heap.size ≤ w'.heap.size)
    (h : wpInv P l.toArray F C T (l.take n) a (fun U w => wpList P l.toArray Q (l.drop n) (fillPuts (l.take n) U 0 a) w) 0 [] (l.take n)) : (Code.region id l.toArray true).wp P Q a w := by
  refine wp_region_any hm ?_
  have hB' := hB
  simp only [invB, Bool.and_eq_true, decide_eq_true_eq] at hB'
  obtain ⟨⟨⟨⟨⟨hn, hs⟩, hc⟩, hback⟩, hdist⟩, hseq⟩ := hB'
  have hn' : n < l.length := by simpa using hn
  obtain ⟨Rs, hOK, hfin⟩ := wpInv_ok (P := P) (hd := l.take n) (fun j o hj p hp => by
    obtain ⟨e, he, hb, rfl⟩ := of_mem_predsOf hp
    have hjn : j < n := by have := (List.getElem?_eq_some_iff.1 hj).1; simp at this; omega
    rw [List.getElem?_take_of_lt hjn] at hj
    exact backB_spec hback (i := j) (by simpa using hj) e he hb) (l.take n) 0 [] rfl rfl (by omega) (fun j o hj => absurd hj (by omega)) (fun j U w w' hj => absurd hj (by omega)) (fun j o hj => absurd hj (by omega)) h
  obtain ⟨U, hU⟩ := fillPuts_start (l.take n) 0 a
  have := wpAny_of_inv (P := P) (Q := Q) rfl hB hCT hTs hFn hOK hfin n (List.range n) (Array.replicate l.toArray.size false) U { w with drawn := w.drawn + 1 } List.nodup_range (by simp) (fun j => by
      rw [List.mem_range]
      constructor
      · intro hj
        exact ⟨hj, getD_in (by simp; omega) (getD_replicate_false _ _)⟩
      · exact fun h => h.1)
    ⟨by simp, fun j oj _ hl => (by rw [getD_replicate_false] at hl; cases hl), fun t _ ht => getD_in (by simpa using ht) (getD_replicate_false _ _)⟩ hC (fun j _ hl => by rw [getD_replicate_false] at hl; cases hl) (fun j _ hl => by rw [getD_replicate_false] at hl; cases hl) (fun i j _ _ _ hl => by rw [getD_replicate_false] at hl; cases hl)
  rw [hU] at this
  have e : n + (l.toArray.size - n) = l.toArray.size := by omega
  rwa [e] at this
end
end Go
end

section
namespace Go.RI
open Go Go.RowKit
section
variable {P : Program} {ops : Array Oper}
/-- The walk: for each operation of the head what holds of its value. -/
def wpInv (P : Program) (ops : Array Oper) (F : List Nat) (C : (Nat → Bool) → World → Prop) (T : Nat → World → World → Prop) (hd : List Oper) (a0 : Act) (fin : (Nat → Value) → World → Prop) : Nat → List RelU → List Oper → Prop
  | i, Rs, [] => ∀ D U w, (∀ k, k < i → D k = true) → C D w → AllU U w Rs → ApartF F U → fin U w
  | i, Rs, o :: rest => ∃ r : RelU, (∀ U w, r U w = r (maskU (i :: predsOf o) U) w) ∧ (∀ k D U w w', k ≠ i → D k = false → C D w → T k w w' → r U w → r U w') ∧
      (∀ D U w, D i = false → C D w → HypsU Rs U w (predsOf o) → wpList P ops (InvPost (T i) a0.defers w o.dst fun v w' => r (updU U i v) w' ∧ (F.contains i = true → FreshV v w w')) [o] (fillPuts hd U 0 a0) w) ∧
      wpInv P ops F C T hd a0 fin (i + 1) (Rs ++ [r]) rest
/-- What is known of a head: each operation's relation, that it looks at no other's value, that it stays, and its step. -/
structure HeadOK (P : Program) (ops : Array Oper) (F : List Nat) (C : (Nat → Bool) → World → Prop) (T : Nat → World → World → Prop) (hd : List Oper) (a0 : Act) (Rs : List RelU) : Prop where
  len : Rs.length = hd.length
  loc : ∀ j o, hd[j]? = some o → ∀ U w, (Rs.getD j fun _ _ => True) U w = (Rs.getD j fun _ _ => True) (maskU (j :: predsOf o) U) w
  stay : ∀ k j D U w w', k ≠ j → D k = false → C D w → T k w w' → (Rs.getD j fun _ _ => True) U w → (Rs.getD j fun _ _ => True) U w'
  step : ∀ j o, hd[j]? = some o → ∀ D U w, D j = false → C D w → HypsU Rs U w (predsOf o) → wpList P ops (InvPost (T j) a0.defers w o.dst fun v w' => (Rs.getD j fun _ _ => True) (updU U j v) w' ∧ (F.contains j = true → FreshV v w w')) [o] (fillPuts hd U 0 a0) w
theorem wpInv_ok {F : List Nat} {C : (Nat → Bool) → World → Prop} {T : Nat → World → World → Prop} {hd : List Oper} {a0 : Act} {fin : (Nat → Value) → World → Prop}
    (hback : ∀ j o, hd[j]? = some o → ∀ p ∈ predsOf o, p < j) :
    ∀ (rest : List Oper) (i : Nat) (Rs : List RelU), Rs.length = i → hd.drop i = rest → i ≤ hd.length →
      (∀ j o, j < i → hd[j]? = some o → ∀ U w, (Rs.getD j fun _ _ => True) U w = (Rs.getD j fun _ _ => True) (maskU (j :: predsOf o) U) w) →
      (∀ k j D U w w', j < i → k ≠ j → D k = false → C D w → T k w w' → (Rs.getD j fun _ _ => True) U w → (Rs.getD j fun _ _ => True) U w') →
      (∀ j o, j < i → hd[j]? = some o → ∀ D U w, D j = false → C D w → HypsU Rs U w (predsOf o) → wpList P ops (InvPost (T j) a0.defers w o.dst fun v w' => (Rs.getD j fun _ _ => True) (updU U j v) w' ∧ (F.contains j = true → FreshV v w w')) [o] (fillPuts hd U 0 a0) w) →
      wpInv P ops F C T hd a0 fin i Rs rest → ∃ Rs', HeadOK P ops F C T hd a0 Rs' ∧ ∀ D U w, (∀ k, k < hd.length → D k = true) → C D w → AllU U w Rs' → ApartF F U → fin U w
  | [], i, Rs, hl, hdrop, hle, h1, h2, h3, h => by
    have hi : hd.length = i := by
      have := congrArg List.length hdrop
      simp at this
      omega
    refine ⟨Rs, ⟨by omega, fun j o hj => h1 j o (by rw [← hi]; exact (List.getElem?_eq_some_iff.1 hj).1) hj, fun k j D U w w' => ?_, fun j o hj => h3 j o (by rw [← hi]; exact (List.getElem?_eq_some_iff.1 hj).1) hj⟩, fun D U w hD => h D U w (fun k hk => hD k (by omega))⟩
    by_cases hj : j < i
    · exact h2 k j D U w w' hj
    · intro _ _ _ _ _
      rw [List.getD_eq_getElem?_getD, List.getElem?_eq_none (by omega)]
      trivial
  | o :: rest, i, Rs, hl, hdrop, hle, h1, h2, h3, h => by
    obtain ⟨r, ha, hb, hc, hn⟩ := h
    have hoi : hd[i]? = some o := by
      have := congrArg (fun l => l[0]?) hdrop
      simpa using this
    have hlt : i < hd.length := (List.getElem?_eq_some_iff.1 hoi).1
    have gl : ∀ j, j < i → (Rs ++ [r]).getD j (fun _ _ => True) = Rs.getD j (fun _ _ => True) := fun j hj => by
      rw [List.getD_eq_getElem?_getD, List.getElem?_append_left (by omega), ← List.getD_eq_getElem?_getD]
    have gi : (Rs ++ [r]).getD i (fun _ _ => True) = r := by
      rw [List.getD_eq_getElem?_getD, List.getElem?_append_right (by omega)]
      simp [hl]
    refine wpInv_ok hback rest (i + 1) (Rs ++ [r]) (by simp [hl]) ?_ (by omega) ?_ ?_ ?_ hn
    · rw [← List.drop_drop, hdrop]; rfl
    · intro j p hj hp U w
      by_cases e : j = i
      · subst e
        rw [gi]
        obtain rfl : p = o := Option.some.inj (hp.symm.trans hoi)
        exact ha U w
      · rw [gl j (by omega)]; exact h1 j p (by omega) hp U w
    · intro k j D U w w' hj
      by_cases e : j = i
      · subst e; rw [gi]; exact hb k D U w w'
      · rw [gl j (by omega)]; exact h2 k j D U w w' (by omega)
    · intro j p hj hp D U w hDj hC hH
      have hp' : ∀ q ∈ predsOf p, q < Rs.length := fun q hq => by have := hback j p hp q hq; omega
      have hH' := hypsU_append (predsOf p) hp' hH
      by_cases e : j = i
      · subst e
        rw [gi]
        obtain rfl : p = o := Option.some.inj (hp.symm.trans hoi)
        exact hc D U w hDj hC hH'
      · rw [gl j (by omega)]
        exact h3 j p (by omega) hp D U w hDj hC hH'
theorem wpAny_of_inv {F : List Nat} {C : (Nat → Bool) → World → Prop} {T : Nat → World → World → Prop} {n : Nat} {a0 : Act} {Rs : List RelU} {Q : Exit → Act → World → Prop} {l : List Oper} (hops : ops = l.toArray) (hB : invB ops n = true)
    (hCT : ∀ k D w w', D k = false → C D w → T k w w' → C (fun j => if j = k then true else D j) w') (hTs : ∀ k w w', T k w w' → w.heap.size ≤ w'.heap.size) (hFn : F.all (fun i => decide (i < n)) = true) (hOK : HeadOK P ops F C T (l.take n) a0 Rs)
    (hfin : ∀ D U w, (∀ k, k < n → D k = true) → C D w → AllU U w Rs → ApartF F U → wpList P ops Q (l.drop n) (fillPuts (l.take n) U 0 a0) w) :
    ∀ (f : Nat) (L : List Nat) (listed : Array Bool) (U : Nat → Value) (w : World), L.Nodup → L.length = f → (∀ j, j ∈ L ↔ j < n ∧ listed.getD j true = false) → HeadInv .any ops n listed → C (fun k => listed.getD k false) w →
      (∀ j, j < n → listed.getD j false = true → (Rs.getD j fun _ _ => True) U w) → (∀ j, F.contains j = true → listed.getD j false = true → ∃ p, blkOf (U j) = some p ∧ p < w.heap.size) →
      (∀ i j, F.contains i = true → F.contains j = true → i ≠ j → listed.getD i false = true → listed.getD j false = true → blkOf (U i) ≠ blkOf (U j)) → wpAny P .any ops Q (f + (ops.size - n)) listed (fillPuts (l.take n) U 0 a0) w := by
  simp only [invB, Bool.and_eq_true, decide_eq_true_eq] at hB
  obtain ⟨⟨⟨⟨⟨hn, hs⟩, hc⟩, hback⟩, hdist⟩, hseq⟩ := hB
  have hlen : (l.take n).length = n := by subst hops; simp at hn ⊢; omega
  have hdl : (l.drop n).length = ops.size - n := by subst hops; simp
  intro f
  induction f with
  | zero =>
    intro L listed U w hnd hL hmem inv hC hR hFb hFd
    have hL0 : L = [] := List.length_eq_zero_iff.1 hL
    subst hL0
    have hall : ∀ j, j < n → listed.getD j true = true := fun j hj => by
      cases h : listed.getD j true with
      | true => rfl
      | false => exact absurd ((hmem j).2 ⟨hj, h⟩) (by simp)
    have hlisted : listed = ((List.range ops.size).map fun i => decide (i < n)).toArray := by
      apply Array.ext
      · simp [inv.size]
      · intro i h1 h2
        simp only [List.getElem_toArray, List.getElem_map, List.getElem_range]
        by_cases hi : i < n
        · have := hall i hi
          simp [h1] at this
          simp [this, hi]
        · have := inv.tail i (by omega) (by rw [← inv.size]; exact h1)
          simp [h1] at this
          simp [this, hi]
    rw [Nat.zero_add, ← hdl]
    refine wpAny_of_seq (l.drop n) n listed _ w (fun j => by subst hops; simp [List.getElem?_drop]) (by rw [hdl, hlisted]; exact hseq) ?_
    have hallf : ∀ j, j < n → listed.getD j false = true := fun j hjn => by
      have := hall j hjn
      have hjs : j < listed.size := by rw [inv.size]; omega
      simp [hjs] at this ⊢
      exact this
    have hFn' : ∀ j, F.contains j = true → j < n := fun j hj => by
      have := List.all_eq_true.1 hFn j (List.contains_iff_mem.1 hj)
      simpa using this
    refine hfin _ U w hallf hC (allU_of Rs fun j hj => hR j (by rw [hOK.len, hlen] at hj; exact hj) (hallf j (by rw [hOK.len, hlen] at hj; exact hj))) (fun i j hi hj hij => hFd i j hi hj hij (hallf i (hFn' i hi)) (hallf j (hFn' j hj)))
  | succ f ih =>
    intro L listed U w hnd hL hmem inv hC hR hFb hFd
    have hne : L ≠ [] := fun h => by subst h; simp at hL
    obtain ⟨i0, hi0⟩ := List.exists_mem_of_ne_nil L hne
    obtain ⟨hi0n, hi0u⟩ := (hmem i0).1 hi0
    -- the least one that is not listed may come up
    have hready : Region.ready .any ops listed ≠ [] := by
      have key : ∀ (d i : Nat), i ≤ d → i < n → listed.getD i true = false → Region.ready .any ops listed ≠ [] := by
        intro d
        induction d with
        | zero =>
          intro i hid hin hiu
          have hi : i = 0 := by omega
          subst hi
          have hlt : 0 < ops.size := by omega
          intro h
          have : 0 ∈ Region.ready .any ops listed := mem_ready.2 ⟨hiu, ops[0], by simp [hlt], fun e he hb => absurd (backB_spec hback (i := 0) (by simp [hlt]) e he hb) (by omega)⟩
          rw [h] at this; cases this
        | succ d ihd =>
          intro i hid hin hiu
          have hlt : i < ops.size := by omega
          by_cases hex : ∃ e ∈ ops[i].after, Region.binds .any e = true ∧ listed.getD e.on false = false
          · obtain ⟨e, he, hb, hu⟩ := hex
            have hlt2 := backB_spec hback (i := i) (by simp [hlt]) e he hb
            exact ihd e.on (by omega) (by omega) (getD_in (by rw [inv.size]; omega) hu)
          · intro h
            have : i ∈ Region.ready .any ops listed := mem_ready.2 ⟨hiu, ops[i], by simp [hlt], fun e he hb => by
              cases h' : listed.getD e.on false with
              | true => rfl
              | false => exact absurd ⟨e, he, hb, h'⟩ hex⟩
            rw [h] at this; cases this
      exact key i0 i0 (Nat.le_refl _) hi0n hi0u
    rw [show f + 1 + (ops.size - n) = (f + (ops.size - n)) + 1 by omega]
    refine ⟨fun h => absurd h hready, fun i hi => ?_⟩
    obtain ⟨hiu, o, ho, hall⟩ := mem_ready.1 hi
    have hin : i < n := by
      rcases Nat.lt_or_ge i n with h | h
      · exact h
      · exact absurd hi (tail_waits hs hc hn inv _ i0 rfl hi0n hi0u i h)
    have hio : (l.take n)[i]? = some o := by
      subst hops
      rw [List.getElem?_take_of_lt hin]
      simpa using ho
    have hp : ∀ p ∈ predsOf o, p < n ∧ listed.getD p false = true := fun p hp => by
      obtain ⟨e, he, hb, rfl⟩ := of_mem_predsOf hp
      have := backB_spec hback ho e he hb
      exact ⟨by omega, hall e he hb⟩
    have hstep := hOK.step i o hio _ U w (getD_both hiu) hC (hypsU_of _ fun p hpp => hR p (hp p hpp).1 (hp p hpp).2)
    refine wpOp_of_list_inv ho (fillPuts_defers _ _ _ _) (fun v w' hT hG => ?_) hstep
    have hC' := hCT i _ w w' (getD_both hiu) hC hT
    have hDe : (fun j => if j = i then true else listed.getD j false) = fun k => (listed.setIfInBounds i true).getD k false := by
      funext j
      by_cases e : i = j
      · subst e
        have hsz : i < listed.size := by rw [inv.size]; omega
        simp [hsz]
      · rw [if_neg (fun h => e h.symm), getD_set_ne false e]
    rw [hDe] at hC'
    rw [← put_slot, fillPuts_put (l.take n) U 0 i o _ a0 (by subst hops; simpa using hdist) hio, Nat.zero_add]
    refine ih (L.erase i) (listed.setIfInBounds i true) _ w' (hnd.erase i) (by rw [List.length_erase_of_mem ((hmem i).2 ⟨hin, hiu⟩), hL]; rfl) (fun j => ?_) (inv.set hi hin) hC' (fun j hj hjl => ?_) ?_ ?_
    · rw [hnd.mem_erase_iff, hmem j]
      by_cases e : i = j
      · subst e
        constructor
        · rintro ⟨h, _⟩; exact absurd rfl h
        · rintro ⟨_, h⟩
          have hsz : i < listed.size := by rw [inv.size]; omega
          simp [hsz] at h
      · rw [getD_set_ne true e]
        constructor
        · rintro ⟨_, h⟩; exact h
        · intro h; exact ⟨fun h' => e h'.symm, h⟩
    · by_cases e : i = j
      · subst e; exact hG.1
      · rw [getD_set_ne false e] at hjl
        have hj1 := hOK.stay i j _ U w w' e (getD_both hiu) hC hT (hR j hj hjl)
        have hjs : j < ops.size := by omega
        obtain ⟨oj, hoj⟩ : ∃ oj, ops[j]? = some oj := ⟨ops[j], by simp [hjs]⟩
        have hjo : (l.take n)[j]? = some oj := by
          subst hops
          rw [List.getElem?_take_of_lt hj]
          simpa using hoj
        have hni : (j :: predsOf oj).contains i = false := by
          rw [Bool.eq_false_iff]
          intro h
          rcases List.mem_cons.1 (List.contains_iff_mem.1 h) with h | h
          · exact e h
          · obtain ⟨e', he', hb', rfl⟩ := of_mem_predsOf h
            have := inv.closed j oj hoj hjl e' he' hb'
            rw [getD_both hiu] at this
            cases this
        rw [hOK.loc j oj hjo, maskU_upd hni, ← hOK.loc j oj hjo]
        exact hj1
    · intro j hj hjl
      by_cases e : i = j
      · subst e
        obtain ⟨p, hp1, _, hp2⟩ := hG.2 hj
        exact ⟨p, by rw [updU_eq]; exact hp1, hp2⟩
      · rw [getD_set_ne false e] at hjl
        obtain ⟨p, hp1, hp2⟩ := hFb j hj hjl
        refine ⟨p, ?_, Nat.lt_of_lt_of_le hp2 (hTs _ _ _ hT)⟩
        have : updU U i (slotOf (fillPuts (l.take n) U 0 a0 |>.put o.dst v) o.dst) j = U j := by unfold updU; rw [if_neg (fun h => e h.symm)]
        rw [this]; exact hp1
    · intro j k hj hk hjk hjl hkl
      have old : ∀ q, i ≠ q → updU U i (slotOf (fillPuts (l.take n) U 0 a0 |>.put o.dst v) o.dst) q = U q := fun q e => by unfold updU; rw [if_neg (fun h => e h.symm)]
      by_cases e : i = j
      · subst e
        have e2 : i ≠ k := hjk
        rw [getD_set_ne false e2] at hkl
        obtain ⟨p, hp1, hp2, _⟩ := hG.2 hj
        obtain ⟨q, hq1, hq2⟩ := hFb k hk hkl
        rw [updU_eq, old k e2, hp1, hq1]
        intro h
        have := Option.some.inj h
        omega
      · rw [getD_set_ne false e] at hjl
        by_cases e2 : i = k
        · subst e2
          obtain ⟨p, hp1, hp2, _⟩ := hG.2 hk
          obtain ⟨q, hq1, hq2⟩ := hFb j hj hjl
          rw [updU_eq, old j e, hp1, hq1]
          intro h
          have := Option.some.inj h
          omega
        · rw [getD_set_ne false e2] at hkl
          rw [old j e, old k e2]
          exact hFd j k hj hk hjk hjl hkl
/-- An operation whose value hangs on the values ahead of it alone. -/
theorem wpInv_det {F : List Nat} {C : (Nat → Bool) → World → Prop} {T : Nat → World → World → Prop} {hd : List Oper} {a0 : Act} {fin : (Nat → Value) → World → Prop} {i : Nat} {Rs : List RelU} {o : Oper} {rest : List Oper} (hp : (predsOf o).contains i = false) (hF : F.contains i = false)
    (h : ∃ f : (Nat → Value) → Value, (∀ D U w, D i = false → C D w → HypsU Rs U w (predsOf o) → wpList P ops (InvPost (T i) a0.defers w o.dst fun v _ => v = f U) [o] (fillPuts hd U 0 a0) w) ∧
      (∀ U, f U = f (maskU (predsOf o) U)) ∧ wpInv P ops F C T hd a0 fin (i + 1) (Rs ++ [fun U _ => U i = f U]) rest) : wpInv P ops F C T hd a0 fin i Rs (o :: rest) := by
  obtain ⟨f, h1, h2, h3⟩ := h
  have e1 : ∀ U, maskU (predsOf o) (maskU (i :: predsOf o) U) = maskU (predsOf o) U := fun U => by
    funext j
    unfold maskU
    by_cases hj : (predsOf o).contains j = true
    · rw [if_pos hj, if_pos hj, if_pos (by simp at hj ⊢; exact .inr hj)]
    · rw [if_neg hj, if_neg hj]
  refine ⟨fun U _ => U i = f U, fun U w => ?_, fun _ _ _ _ _ _ _ _ _ h => h, fun D U w hDi hC hH => ?_, h3⟩
  · have e2 : maskU (i :: predsOf o) U i = U i := by unfold maskU; rw [if_pos (by simp)]
    have e3 : f (maskU (i :: predsOf o) U) = f U := by rw [h2, e1, ← h2]
    show (U i = f U) = (maskU (i :: predsOf o) U i = f (maskU (i :: predsOf o) U))
    rw [e2, e3]
  · refine wpList_post (T := T i) (fun a' w' hq => ?_) (h1 D U w hDi hC hH)
    refine ⟨hq.1, hq.2.1, hq.2.2.1, ?_, fun h => by rw [hF] at h; cases h⟩
    have hq4 := hq.2.2.2
    show updU U i (slotOf a' o.dst) i = f (updU U i (slotOf a' o.dst))
    rw [updU_eq, hq4, h2 (updU U i (f U)), maskU_upd hp, ← h2]
theorem wp_region_inv {id : Nat} {Q : Exit → Act → World → Prop} {a : Act} {w : World} {l : List Oper} (F : List Nat) (C : (Nat → Bool) → World → Prop) (T : Nat → World → World → Prop) (n : Nat) (hm : P.follows .mixedOrders = true) (hB : invB l.toArray n = true)
    (hFn : F.all (fun i => decide (i < n)) = true) (hC : C (fun _ => false) w.drew) (hCT : ∀ k D w w', D k = false → C D w → T k w w' → C (fun j => if j = k then true else D j) w') (hTs : ∀ k w w', T k w w' → w.heap.size ≤ w'.heap.size)
    (h : wpInv P l.toArray F C T (l.take n) a (fun U w => wpList P l.toArray Q (l.drop n) (fillPuts (l.take n) U 0 a) w) 0 [] (l.take n)) : (Code.region id l.toArray true).wp P Q a w := by
  refine wp_region_any hm ?_
  have hB' := hB
  simp only [invB, Bool.and_eq_true, decide_eq_true_eq] at hB'
  obtain ⟨⟨⟨⟨⟨hn, hs⟩, hc⟩, hback⟩, hdist⟩, hseq⟩ := hB'
  have hn' : n < l.length := by simpa using hn
  obtain ⟨Rs, hOK, hfin⟩ := wpInv_ok (P := P) (hd := l.take n) (fun j o hj p hp => by
    obtain ⟨e, he, hb, rfl⟩ := of_mem_predsOf hp
    have hjn : j < n := by have := (List.getElem?_eq_some_iff.1 hj).1; simp at this; omega
    rw [List.getElem?_take_of_lt hjn] at hj
    exact backB_spec hback (i := j) (by simpa using hj) e he hb) (l.take n) 0 [] rfl rfl (by omega) (fun j o hj => absurd hj (by omega)) (fun k j D U w w' hj => absurd hj (by omega)) (fun j o hj => absurd hj (by omega)) h
  obtain ⟨U, hU⟩ := fillPuts_start (l.take n) 0 a
  have := wpAny_of_inv (P := P) (Q := Q) rfl hB hCT hTs hFn hOK (fun D U w hD => hfin D U w (fun k hk => hD k (by simp at hk; omega))) n (List.range n) (Array.replicate l.toArray.size false) U { w with drawn := w.drawn + 1 } List.nodup_range (by simp) (fun j => by
      rw [List.mem_range]
      constructor
      · intro hj
        exact ⟨hj, getD_in (by simp; omega) (getD_replicate_false _ _)⟩
      · exact fun h => h.1)
    ⟨by simp, fun j oj _ hl => (by rw [getD_replicate_false] at hl; cases hl), fun t _ ht => getD_in (by simpa using ht) (getD_replicate_false _ _)⟩ (by
      have e : (fun k => (Array.replicate l.toArray.size false).getD k false) = fun _ => false := funext fun k => getD_replicate_false _ _
      rw [e]; exact hC) (fun j _ hl => by rw [getD_replicate_false] at hl; cases hl) (fun j _ hl => by rw [getD_replicate_false] at hl; cases hl) (fun i j _ _ _ hl => by rw [getD_replicate_false] at hl; cases hl)
  rw [hU] at this
  have e : n + (l.toArray.size - n) = l.toArray.size := by omega
  rwa [e] at this
end
end Go.RI
end

section
namespace Go
open Go.RowKit
set_option linter.unusedSimpArgs false
/-- A cell of a kind, within its bounds. -/
def Leaf.fitsW : Leaf → Value → Bool
  | .int k, .int k' n => decide (k = k') && (Lit.int k n).wf
  | .bool, .bool _ => true
  | _, _ => false
def fitAllW : List Leaf → List Value → Bool
  | [], [] => true
  | l :: ls, x :: xs => l.fitsW x && fitAllW ls xs
  | _, _ => false
theorem fitAllW_append : ∀ {ls ms : List Leaf} {xs ys : List Value}, fitAllW ls xs = true → fitAllW ms ys = true → fitAllW (ls ++ ms) (xs ++ ys) = true
  | [], ms, [], ys, _, h2 => by simpa using h2
  | l :: ls, ms, x :: xs, ys, h1, h2 => by
    simp only [fitAllW, Bool.and_eq_true] at h1
    simp only [List.cons_append, fitAllW, Bool.and_eq_true]
    exact ⟨h1.1, fitAllW_append h1.2 h2⟩
theorem fitAllW_length : ∀ {ls : List Leaf} {xs : List Value}, fitAllW ls xs = true → xs.length = ls.length
  | [], [], _ => rfl
  | _ :: ls, _ :: xs, h => by
    simp only [fitAllW, Bool.and_eq_true] at h
    simp [fitAllW_length h.2]
theorem fitAllW_at : ∀ {ls : List Leaf} {xs : List Value} (i : Nat) (k : IntKind), fitAllW ls xs = true → ls[i]? = some (.int k) → ∃ n, xs[i]? = some (.int k n) ∧ (Lit.int k n).wf = true
  | l :: ls, x :: xs, 0, k, h, hi => by
    obtain rfl : l = .int k := by simpa using hi
    simp only [fitAllW, Bool.and_eq_true] at h
    have h1 := h.1
    cases x with
    | int k' n =>
      simp only [Leaf.fitsW, Bool.and_eq_true, decide_eq_true_eq] at h1
      obtain ⟨rfl, hw⟩ := h1
      exact ⟨n, rfl, hw⟩
    | _ => exact absurd h1 (by simp [Leaf.fitsW])
  | l :: ls, x :: xs, i + 1, k, h, hi => by
    simp only [fitAllW, Bool.and_eq_true] at h
    simpa using fitAllW_at i k h.2 (by simpa using hi)
theorem fitAllW_int {k : IntKind} {ls : List Leaf} {xs : List Value} (h : fitAllW (.int k :: ls) xs = true) : ∃ n ys, xs = .int k n :: ys ∧ (Lit.int k n).wf = true ∧ fitAllW ls ys = true := by
  cases xs with
  | nil => simp [fitAllW] at h
  | cons x ys =>
    simp only [fitAllW, Bool.and_eq_true] at h
    obtain ⟨n, h1, h2⟩ := fitAllW_at (ls := [.int k]) (xs := [x]) 0 k (by simp [fitAllW, h.1]) rfl
    obtain rfl : x = .int k n := by simpa using h1
    exact ⟨n, ys, rfl, h2, h.2⟩
theorem fitAllW_nil {xs : List Value} (h : fitAllW [] xs = true) : xs = [] := by
  cases xs with
  | nil => rfl
  | cons x ys => simp [fitAllW] at h
theorem layout_cells {P : Program} {d : Nat} {t : TypeId} {ls : List Leaf} (h : layout P d t = some ls) : P.cellsOf t = ls.length := by
  obtain ⟨i, h1, h2⟩ := layout_info h
  simp [Program.cellsOf, h1, h2]
section
variable {H : Type} {enc : TypeId × Value → H} {P : Program} {w : World} {base : Nat} {spare : Nat → Bool} {held : Bool}
theorem fields_flat {d n : Nat} (IH : ∀ (t : TypeId) (ls : List Leaf) (cs : List Value) (x : DataW H × List MemPlace), layout P d t = some ls → DataW.trod enc P w base spare held n t cs = some x → fitAllW ls cs = true) (cs : List Value) :
    ∀ (fs : List Field) (ls : List (List Leaf)) (xs : List (DataW H × List MemPlace)) (o : Nat), fs.mapM (fun f => layout P d f.type) = some ls → offsOk fs ls o = true → xs.length = fs.length →
      (∀ (i : Nat) (f : Field), fs[i]? = some f → DataW.trod enc P w base spare held n f.type ((cs.drop f.offset).take (P.cellsOf f.type)) = xs[i]?) → fitAllW ls.flatten ((cs.drop o).take ls.flatten.length) = true
  | [], ls, xs, o, h, _, _, _ => by
    simp at h
    subst h
    simp [fitAllW]
  | f :: fs, ls, xs, o, h, ho, hl, hx => by
    rw [List.mapM_cons] at h
    obtain ⟨l, h1, h2⟩ := Option.bind_eq_some_iff.1 h
    obtain ⟨ls', h3, h4⟩ := Option.bind_eq_some_iff.1 h2
    obtain rfl : l :: ls' = ls := by simpa using h4
    simp only [offsOk, Bool.and_eq_true, beq_iff_eq] at ho
    obtain ⟨⟨_, rfl⟩, ho⟩ := ho
    match xs, hl with
    | x :: xs, hl =>
      have hx0 := hx 0 f rfl
      simp only [List.getElem?_cons_zero] at hx0
      rw [layout_cells h1] at hx0
      have a1 := IH _ _ _ _ h1 hx0
      have a2 := fields_flat IH cs fs ls' xs (f.offset + l.length) h3 ho (by simpa using hl) (fun i g hg => by simpa using hx (i + 1) g (by simpa using hg))
      have e : (cs.drop f.offset).take (l :: ls').flatten.length = (cs.drop f.offset).take l.length ++ (cs.drop (f.offset + l.length)).take ls'.flatten.length := by
        rw [List.flatten_cons, List.length_append, List.take_add, List.drop_drop]
      rw [e, List.flatten_cons]
      exact fitAllW_append a1 a2
theorem items_flat {l : List Leaf} (cs : List Value) : ∀ (n o : Nat), (∀ i, i < n → fitAllW l ((cs.drop (o + i * l.length)).take l.length) = true) → fitAllW (List.replicate n l).flatten ((cs.drop o).take (List.replicate n l).flatten.length) = true
  | 0, _, _ => by simp [fitAllW]
  | n + 1, o, h => by
    have a1 := h 0 (by omega)
    have a2 := items_flat cs n (o + l.length) (fun i hi => by
      have := h (i + 1) (by omega)
      rwa [show o + (i + 1) * l.length = o + l.length + i * l.length by rw [Nat.add_mul]; omega] at this)
    simp only [Nat.zero_mul, Nat.add_zero] at a1
    have e : (cs.drop o).take (List.replicate (n + 1) l).flatten.length = (cs.drop o).take l.length ++ (cs.drop (o + l.length)).take (List.replicate n l).flatten.length := by
      rw [List.replicate_succ, List.flatten_cons, List.length_append, List.take_add, List.drop_drop]
    rw [e, List.replicate_succ, List.flatten_cons]
    exact fitAllW_append a1 a2
theorem flat_of_trod : ∀ (d n : Nat) (t : TypeId) (ls : List Leaf) (cs : List Value) (x : DataW H × List MemPlace), layout P d t = some ls → DataW.trod enc P w base spare held n t cs = some x → fitAllW ls cs = true
  | 0, _, _, _, _, _, h, _ => by simp [layout] at h
  | d + 1, n, t, ls, cs, x, h, ht => by
    have hcells := layout_cells h
    unfold layout at h
    split at h
    · rename_i hu
      split at h
      · obtain rfl : [Leaf.bool] = ls := by simpa using h
        cases n with
        | zero => simp [DataW.trod] at ht
        | succ n =>
          unfold DataW.trod at ht
          rw [hu] at ht
          split at ht <;> simp_all [fitAllW, Leaf.fitsW]
      · cases h
    · rename_i k hu
      split at h
      · obtain rfl : [Leaf.int k] = ls := by simpa using h
        obtain ⟨m, rfl, _, hw⟩ := DataW.trod_int hu ht
        simp [fitAllW, Leaf.fitsW, hw]
      · cases h
    · rename_i m e hu
      obtain ⟨l, h1, h2⟩ := Option.bind_eq_some_iff.1 h
      split at h2
      · obtain rfl : (List.replicate m l).flatten = ls := by simpa using h2
        obtain ⟨xs, n', rfl, rfl, hl, hlen, hx⟩ := DataW.trod_array hu ht
        rw [hcells] at hl
        have := items_flat (l := l) cs m 0 (fun i hi => by
          have h3 := hx i hi
          rw [layout_cells h1, List.getElem?_eq_getElem (by omega)] at h3
          rw [Nat.zero_add]
          exact flat_of_trod d n' e l _ _ h1 h3)
        rw [List.drop_zero, ← hl, List.take_length] at this
        exact this
      · cases h2
    · rename_i fs hu
      obtain ⟨ls', h1, h2⟩ := Option.bind_eq_some_iff.1 h
      split at h2
      · rename_i hc
        obtain rfl : ls'.flatten = ls := by simpa using h2
        simp only [Bool.and_eq_true] at hc
        obtain ⟨xs, n', rfl, rfl, hl, hlen, hx⟩ := DataW.trod_struct hu ht
        rw [hcells] at hl
        have := fields_flat (fun t ls cs x => flat_of_trod d n' t ls cs x) cs fs.toList ls' xs 0 h1 hc.1.2 (by simpa using hlen) (fun i f hf => by
          rw [hx i f (by simpa using hf)])
        rw [List.drop_zero, ← hl, List.take_length] at this
        exact this
      · cases h2
    · cases h
/-- A flat struct or array that came in: its cells. -/
theorem open_flat {r : Reach} {b0 : Nat} {t : TypeId} {v : Value} {dd : DataW H} {p : List MemPlace} (d : Nat) (ls : List Leaf) (hl : layout P d t = some ls) (ha : isAggB P t = true)
    (hv : Value.okWide P w r b0 t v) (h : DataW.Trod enc P w base spare held t v dd p) : ∃ cs : List Value, v = .agg cs.toArray ∧ fitAllW ls cs = true := by
  obtain ⟨fuel, hf⟩ := h
  have hcs : ∃ cs, v = .agg cs := by
    unfold isAggB at ha
    unfold Value.okWide at hv
    split at ha <;> simp_all
    · obtain ⟨cs, h, _⟩ := hv; exact ⟨cs, h⟩
    · obtain ⟨cs, h, _⟩ := hv; exact ⟨cs, h⟩
  obtain ⟨cs, rfl⟩ := hcs
  refine ⟨cs.toList, by simp, ?_⟩
  exact flat_of_trod d fuel t ls _ _ hl (by simpa [Value.cells] using hf)
end
end Go
end

section
section
namespace Go
open Go.RowKit
/-- What follows is shown of every world of which this is known. -/
theorem cut_world {P : Program} {c : Code} {Q : Exit → Act → World → Prop} {a : Act} {w : World} (F : World → Prop) (hF : F w) (h : ∀ W, F W → c.wp P Q a W) : c.wp P Q a w := h w hF
end Go
end
section
namespace Go
open Go.RowKit
/-- A block whose cells are all known. -/
theorem block_facts {w : World} {p : Nat} {cs : Array Value} {T : TypeId} (h : w.heap[p]? = some (.cells cs T (0, 0))) : (∀ i, w.cell? ⟨p, i, none⟩ = cs[i]?) ∧ (∀ i, w.frozen? ⟨p, i, none⟩ = false) ∧ p < w.heap.size :=
  ⟨fun i => by simp [World.cell?, h], fun i => by simp [World.frozen?, h], (Array.getElem?_eq_some_iff.1 h).1⟩
end Go
end
section
namespace Go
open Go.RowKit
theorem setCell_own (w : World) (K i : Nat) (cs : Array Value) (T : TypeId) (f : Nat × Nat) (v : Value) (h : w.heap[K]? = some (.cells cs T f)) : (w.setCell ⟨K, i, none⟩ v).heap[K]? = some (.cells (cs.setIfInBounds i v) T f) := by
  show (w.heap.modify K _)[K]? = _
  rw [Array.getElem?_modify, if_pos rfl, h]
  rfl
theorem alloc_old (w : World) (o : Obj) (k : Nat) (h : k < w.heap.size) : (w.alloc o).heap[k]? = w.heap[k]? := by
  show (w.heap.push o)[k]? = _
  rw [Array.getElem?_push, if_neg (by omega)]
end Go
end
section
namespace Go.Proofs.YtbcdnbbpkikppaaDoor
open Go.RowKit Go.BigFrame Go.Proofs.YtbcdnbbpkikppaaDoorW.PrintWords Go.Proofs.YtbcdnbbpkikppaaDoorW.PrintLast Go.Proofs.YtbcdnbbpkikppaaDoorW.PrintMore
set_option linter.unusedSimpArgs false
set_option linter.unusedVariables false
theorem own_form {w : World} {base : Nat} {e : TypeId} {size n : Nat} {v : Value} {xs : List Value} (h : w.ownsRow base e size v n xs) (hn : 0 < n) : ∃ g c, v = .slice (some ⟨g, 0, none⟩) n c ∧ base ≤ g ∧ g < w.heap.size := by
  rcases h.2 with ⟨_, h0⟩ | ⟨g, cap, cur, hv, hg, hh, _⟩
  · omega
  · exact ⟨g, cap, hv, hg, (Array.getElem?_eq_some_iff.1 hh).1⟩
theorem own_slice' {w : World} {base : Nat} {e : TypeId} {size n : Nat} {v : Value} {xs : List Value} (h : w.ownsRow base e size v n xs) : ∃ A c, v = .slice A n c := by
  rcases h.2 with ⟨hv, h0⟩ | ⟨g, cap, cur, hv, _⟩
  · subst h0; exact ⟨none, 0, hv⟩
  · exact ⟨_, _, hv⟩
end Go.Proofs.YtbcdnbbpkikppaaDoor
end
section
namespace Go.Proofs.YtbcdnbbpkikppaaDoor
open Go.RowKit Go.BigFrame Go.Proofs.YtbcdnbbpkikppaaDoorW.PrintWords Go.Proofs.YtbcdnbbpkikppaaDoorW.PrintLast Go.Proofs.YtbcdnbbpkikppaaDoorW.PrintMore
set_option linter.unusedSimpArgs false
set_option linter.unusedVariables false
theorem w64_id {x : Int} (h1 : -4611686018427387904 ≤ x) (h2 : x ≤ 4611686018427387904) : wrap64 x = x := by unfold wrap64; omega
theorem rd_nat (l : List Int) (j : Nat) : rd l (j : Int) = l.getD j 0 := by unfold rd; rw [Int.toNat_natCast]
end Go.Proofs.YtbcdnbbpkikppaaDoor
end
section
namespace Go.Proofs.YtbcdnbbpkikppaaDoor
open Go.RowKit Go.BigFrame Go.Proofs.YtbcdnbbpkikppaaDoorW.PrintWords Go.Proofs.YtbcdnbbpkikppaaDoorW.PrintLast Go.Proofs.YtbcdnbbpkikppaaDoorW.PrintMore
set_option linter.unusedSimpArgs false
set_option linter.unusedVariables false
theorem wr_small {x : Int} (h1 : -4611686018427387904 ≤ x) (h2 : x ≤ 4611686018427387904) : IntKind.i64.wrap x = x := (i64_w x).trans (w64_id h1 h2)
end Go.Proofs.YtbcdnbbpkikppaaDoor
end
section
namespace Go.Proofs.YtbcdnbbpkikppaaDoor
open Go.RowKit Go.BigFrame Go.Proofs.YtbcdnbbpkikppaaDoorW.PrintWords Go.Proofs.YtbcdnbbpkikppaaDoorW.PrintLast Go.Proofs.YtbcdnbbpkikppaaDoorW.PrintMore
set_option linter.unusedSimpArgs false
set_option linter.unusedVariables false
/-- N whole numbers, each of its own kind. -/
def ag (k : Nat → IntKind) (N : Nat) (st : Nat → Int) : Array Value := ((List.range N).map fun i => Value.int (k i) (st i)).toArray
def updI (st : Nat → Int) (i : Nat) (x : Int) : Nat → Int := fun j => if j = i then x else st j
theorem ag_size (k : Nat → IntKind) (N : Nat) (st : Nat → Int) : (ag k N st).size = N := by simp [ag]
theorem ag_get (k : Nat → IntKind) (N : Nat) (st : Nat → Int) (i : Nat) (h : i < N) : (ag k N st)[i]? = some (.int (k i) (st i)) := by
  simp [ag, h]
theorem ag_set (k : Nat → IntKind) (N : Nat) (st : Nat → Int) (i : Nat) (h : i < N) (x : Int) : (ag k N st).setIfInBounds i (.int (k i) x) = ag k N (updI st i x) := by
  apply Array.ext
  · simp [ag]
  · intro j h1 h2
    have hj : j < N := by simpa [ag] using h2
    rw [Array.getElem_setIfInBounds (by simpa [ag] using hj)]
    unfold updI
    by_cases e : i = j
    · subst e; simp [ag]
    · rw [if_neg e]; simp [ag, Ne.symm e]
theorem ag_ext (k : Nat → IntKind) (N : Nat) (s t : Nat → Int) (h : ∀ i, i < N → s i = t i) : ag k N s = ag k N t := by
  unfold ag
  congr 1
  apply List.map_congr_left
  intro i hi
  rw [h i (by simpa using hi)]
end Go.Proofs.YtbcdnbbpkikppaaDoor
end
section
namespace Go.Proofs.YtbcdnbbpkikppaaDoor
open Go.RowKit Go.BigFrame Go.Proofs.YtbcdnbbpkikppaaDoorW.PrintWords Go.Proofs.YtbcdnbbpkikppaaDoorW.PrintLast Go.Proofs.YtbcdnbbpkikppaaDoorW.PrintMore
set_option linter.unusedSimpArgs false
set_option linter.unusedVariables false
theorem cells_all {w : World} {g N : Nat} {e : TypeId} {old cs : Array Value} (h : w.heap[g]? = some (.cells old e (0, 0))) (h1 : old.size = N) (h2 : cs.size = N) : (w.setCells g 0 cs.toList).heap[g]? = some (.cells cs e (0, 0)) := by
  obtain ⟨cur, q1, q2, q3⟩ := setCells_row cs.toList 0 w old h (by rw [Array.length_toList]; omega)
  have : cur = cs := by
    apply Array.ext'
    rw [q3, List.take_zero, List.nil_append, List.drop_of_length_le (by rw [Array.length_toList, Array.length_toList]; omega), List.append_nil]
  rw [q1, this]
theorem ag_one (k : Nat → IntKind) (N : Nat) (st : Nat → Int) : (ag k N st).all (·.oneCell') = true := by
  rw [Array.all_eq_true]
  intro i hi
  simp [ag, Value.oneCell']
end Go.Proofs.YtbcdnbbpkikppaaDoor
end
section
namespace Go.Proofs.YtbcdnbbpkikppaaDoor
open Go.RowKit Go.BigFrame Go.Proofs.YtbcdnbbpkikppaaDoorW.PrintWords Go.Proofs.YtbcdnbbpkikppaaDoorW.PrintLast Go.Proofs.YtbcdnbbpkikppaaDoorW.PrintMore
set_option linter.unusedSimpArgs false
set_option linter.unusedVariables false
/-- A store into a great value. -/
theorem ag_store {w : World} {b N : Nat} {e : TypeId} {k : Nat → IntKind} {f : Nat → Int} (h : w.heap[b]? = some (.cells (ag k N f) e (0, 0))) (i : Nat) (hi : i < N) (x : Int) :
    (w.setCell ⟨b, i, none⟩ (.int (k i) x)).heap[b]? = some (.cells (ag k N (updI f i x)) e (0, 0)) := by
  rw [setCell_own _ _ _ _ _ _ _ h, ag_set k N f i hi x]
theorem ag_cell {w : World} {b N : Nat} {e : TypeId} {k : Nat → IntKind} {f : Nat → Int} (h : w.heap[b]? = some (.cells (ag k N f) e (0, 0))) (i : Nat) (hi : i < N) :
    w.cell? ⟨b, i, none⟩ = some (.int (k i) (f i)) := by rw [(block_facts h).1 i, ag_get _ _ _ _ hi]
theorem build_to {P : Program} {ops : Array Oper} {rest : List Oper} {o : Oper} {a : Act} {w : World} {Q : Exit → Act → World → Prop} (hg : o.guard = none) (t : TypeId) (parts : Array (Nat × Operand)) (ho : o.op = .build t parts) (cells : Array Value)
    (hb : P.built t (parts.map fun (i, x) => (i, a.eval x)).toList = some cells)
    (h : wpList P ops Q rest (a.put o.dst (.agg cells)) w) : wpList P ops Q (o :: rest) a w :=
  wpList_build hg t parts ho (by rw [hb]; rfl) (by rw [hb]; exact h)
theorem there_row {w : World} {b : Nat} {e : TypeId} {old : Array Value} (h : w.heap[b]? = some (.cells old e (0, 0))) (n : Nat) (hn : n ≤ old.size) : w.there b 0 n := by
  intro j hj
  rw [Nat.zero_add]
  refine ⟨?_, (block_facts h).2.1 j⟩
  rw [(block_facts h).1 j, Array.getElem?_eq_getElem (by omega)]
  rfl
theorem alloc_two (w : World) (o p : Obj) : ((w.alloc o).alloc p).heap[w.heap.size]? = some o :=
  ((below_alloc (Below.refl _ _) _ : Below (w.alloc o).heap.size _ ((w.alloc o).alloc p)).block _ (by simp)).trans (alloc_at _ _)
theorem alloc_three (w : World) (o p q : Obj) : (((w.alloc o).alloc p).alloc q).heap[w.heap.size]? = some o :=
  ((below_alloc (Below.refl _ _) _ : Below ((w.alloc o).alloc p).heap.size _ (((w.alloc o).alloc p).alloc q)).block _ (by simp; omega)).trans (alloc_two _ _ _)
theorem alloc_third (w : World) (o p q : Obj) : (((w.alloc o).alloc p).alloc q).heap[w.heap.size + 1 + 1]? = some q := by
  have := alloc_at ((w.alloc o).alloc p) q
  rw [show ((w.alloc o).alloc p).heap.size = w.heap.size + 1 + 1 from by simp] at this
  exact this
theorem alloc_second (w : World) (o p q : Obj) : (((w.alloc o).alloc p).alloc q).heap[w.heap.size + 1]? = some p := by
  have := alloc_two (w.alloc o) p q
  rw [show (w.alloc o).heap.size = w.heap.size + 1 from by simp] at this
  exact this
end Go.Proofs.YtbcdnbbpkikppaaDoor
end
section
namespace Go.Proofs.YtbcdnbbpkikppaaDoor
open Go.RowKit Go.BigFrame Go.Proofs.YtbcdnbbpkikppaaDoorW.PrintWords Go.Proofs.YtbcdnbbpkikppaaDoorW.PrintLast Go.Proofs.YtbcdnbbpkikppaaDoorW.PrintMore
set_option linter.unusedSimpArgs false
set_option linter.unusedVariables false
/-- One block has been written, no other one. -/
structure Only (B : Nat) (w w' : World) : Prop where
  os : w'.os = w.os
  tape : w'.tape = w.tape
  output : w'.output = w.output
  size : w'.heap.size = w.heap.size
  block : ∀ k, k ≠ B → w'.heap[k]? = w.heap[k]?
theorem Only.below {B C : Nat} {w0 w w' : World} (h : Only B w w') (hb : Below C w0 w) (hB : C ≤ B) : Below C w0 w' :=
  hb.trans ⟨h.os, h.tape, h.output, Nat.le_of_eq h.size.symm, fun k hk => h.block k (by omega)⟩
theorem Only.setCell {w w' : World} {p : Addr} (v : Value) (h : Only p.block w w') : Only p.block w (w'.setCell p v) :=
  ⟨h.os, h.tape, h.output, by rw [← h.size]; simp, fun k hk => (Below.heap_setCell w' p v k hk).trans (h.block k hk)⟩
theorem Only.refl (B : Nat) (w : World) : Only B w w := ⟨rfl, rfl, rfl, rfl, fun _ _ => rfl⟩
theorem Only.trans {B : Nat} {a b c : World} (h : Only B a b) (k : Only B b c) : Only B a c :=
  ⟨k.os.trans h.os, k.tape.trans h.tape, k.output.trans h.output, k.size.trans h.size, fun i hi => (k.block i hi).trans (h.block i hi)⟩
theorem only_setCell (w : World) (p : Addr) (v : Value) : Only p.block w (w.setCell p v) := (Only.refl _ w).setCell v
theorem only_setCells (w : World) (g o : Nat) (vs : List Value) : Only g w (w.setCells g o vs) := by
  obtain ⟨h1, h2, h3, h4⟩ := setCells_same g vs o w
  exact ⟨h1, h2, h3, h4, fun k hk => setCells_far vs o k hk⟩
theorem only_setRow (w : World) (g : Nat) (cs : Array Value) : Only g w (w.setRow g cs) :=
  ⟨rfl, rfl, rfl, by simp [World.setRow], fun k hk => setRow_other w g k cs hk⟩
abbrev Bx (B : Nat) (T : TypeId) (k : Nat → IntKind) (N : Nat) (f : Nat → Int) (w : World) : Prop := w.heap[B]? = some (.cells (ag k N f) T (0, 0))
theorem Bx.keep {B T k N f} {w w' : World} (h : Bx B T k N f w) (hb : Below w.heap.size w w') : Bx B T k N f w' := (hb.block B (block_facts h).2.2).trans h
theorem Bx.only {B C T k N f} {w w' : World} (h : Bx B T k N f w) (ho : Only C w w') (hne : B ≠ C) : Bx B T k N f w' := (ho.block B hne).trans h
end Go.Proofs.YtbcdnbbpkikppaaDoor
namespace Go
open Go.RowKit
/-- One step of a region: what stands is kept, but a block of type T0, made since V, may have come to hold X. -/
structure TT (V : World) (T0 : TypeId) (X : Array Value) (W W' : World) : Prop where
  below : Below V.heap.size W W'
  other : ∀ (k : Nat) (cs : Array Value) (T : TypeId) (f : Nat × Nat), T ≠ T0 → W.heap[k]? = some (.cells cs T f) → W'.heap[k]? = some (.cells cs T f)
  own : ∀ (k : Nat) (cs : Array Value) (f : Nat × Nat), W.heap[k]? = some (.cells cs T0 f) → W'.heap[k]? = some (.cells cs T0 f) ∨ W'.heap[k]? = some (.cells X T0 (0, 0))
theorem TT.of_below {V W W' : World} {T0 : TypeId} {X : Array Value} (hs : V.heap.size ≤ W.heap.size) (h : Below W.heap.size W W') : TT V T0 X W W' :=
  ⟨h.mono hs, fun k _ _ _ _ hk => (h.block k (Array.getElem?_eq_some_iff.1 hk).1).trans hk, fun k _ _ hk => .inl ((h.block k (Array.getElem?_eq_some_iff.1 hk).1).trans hk)⟩
end Go
end
section
namespace Go.Proofs.YtbcdnbbpkikppaaDoor
open Go.RowKit Go.BigFrame Go.Proofs.YtbcdnbbpkikppaaDoorW.PrintWords Go.Proofs.YtbcdnbbpkikppaaDoorW.PrintLast Go.Proofs.YtbcdnbbpkikppaaDoorW.PrintMore
set_option linter.unusedSimpArgs false
set_option linter.unusedVariables false
theorem alloc_secondOf (w : World) (o p : Obj) : ((w.alloc o).alloc p).heap[w.heap.size + 1]? = some p := by
  have := alloc_at (w.alloc o) p
  rw [show (w.alloc o).heap.size = w.heap.size + 1 from by simp] at this
  exact this
end Go.Proofs.YtbcdnbbpkikppaaDoor
end
section
namespace Go.Proofs.YtbcdnbbpkikppaaDoor
open Go.RowKit Go.BigFrame Go.Proofs.YtbcdnbbpkikppaaDoorW.PrintWords Go.Proofs.YtbcdnbbpkikppaaDoorW.PrintLast Go.Proofs.YtbcdnbbpkikppaaDoorW.PrintMore
set_option linter.unusedSimpArgs false
set_option linter.unusedVariables false
theorem fitAll_ag (k : Nat → IntKind) (f : Nat → Int) : ∀ l : List Nat, fitAll (l.map fun i => Leaf.int (k i)) (l.map fun i => Value.int (k i) (f i)) = true
  | [] => rfl
  | i :: l => by
    simp only [List.map_cons, fitAll, Bool.and_eq_true]
    exact ⟨by simp [Leaf.fits], fitAll_ag k f l⟩
end Go.Proofs.YtbcdnbbpkikppaaDoor
end
section
namespace Go
open Go.RowKit
theorem load_row_g {P : Program} {ops : Array Oper} {rest : List Oper} {o : Oper} {a : Act} {w : World} {Q : Exit → Act → World → Prop} (hw : Region.wanted o (yielded ops a.tmps) = true) (ty : TypeId) (x : Operand) (ho : o.op = .load ty x)
    (g : Nat) (hx : a.eval x = .pointer (some ⟨g, 0, none⟩)) (t : TypeId) (cs : Array Value) (fr : Nat × Nat) (d : TypeDesc) (hg : w.heap[g]? = some (.cells cs t fr))
    (hu : P.underlying ty = some d) (hd : (match d with | .struct _ | .array _ _ => true | _ => false) = true) (hi : (P.info? ty).map (·.size) = some cs.size)
    (h : wpList P ops Q rest (a.put o.dst (.agg cs)) w) : wpList P ops Q (o :: rest) a w := by
  unfold wpList
  rw [if_pos hw]
  exact .inl (wp_load_row ty x ho g hx t cs fr d hg hu hd hi h)
theorem load_mid_g {P : Program} {ops : Array Oper} {rest : List Oper} {o : Oper} {a : Act} {w : World} {Q : Exit → Act → World → Prop} (hw : Region.wanted o (yielded ops a.tmps) = true) (ty : TypeId) (x : Operand) (ho : o.op = .load ty x)
    (b f : Nat) (hx : a.eval x = .pointer (some ⟨b, f, none⟩)) (cs : List Value) (d : TypeDesc) (hc : w.rangeAt b f cs)
    (hu : P.underlying ty = some d) (hd : d.isRow = true) (hi : (P.info? ty).map (·.size) = some cs.length)
    (h : wpList P ops Q rest (a.put o.dst (.agg cs.toArray)) w) : wpList P ops Q (o :: rest) a w := by
  unfold wpList
  rw [if_pos hw]
  exact .inl (wp_load_mid ty x ho b f hx cs d hc hu hd hi h)
end Go
end
end

section
namespace Go.Vec
/-- The row behind a row: v(k) = up(k) + v(k-1) + up(k-1), from v(0) = 1 on. -/
def rowFrom : Nat → Nat → List Nat → List Nat
  | last, upLast, u :: us => (u + last + upLast) :: rowFrom (u + last + upLast) u us
  | _, _, [] => []
def nextRow : List Nat → List Nat
  | u :: us => 1 :: rowFrom 1 u us
  | [] => []
def row : Nat → List Nat
  | 0 => 1 :: List.replicate 32 0
  | n + 1 => nextRow (row n)
def all : List (List Nat) := (List.range 17).map row
/-- V(n, k), n up to 16, k up to 32. -/
def v (n k : Nat) : Nat := ((row n).getD k 0)
theorem v_rec : ∀ n : Fin 16, ∀ k : Fin 32, v (n.val + 1) (k.val + 1) = v n.val (k.val + 1) + v (n.val + 1) k.val + v n.val k.val := by decide +kernel
theorem v_zero : ∀ n : Fin 17, v n.val 0 = 1 := by decide +kernel
theorem v_none : ∀ k : Fin 32, v 0 (k.val + 1) = 0 := by decide +kernel
theorem v_le : ∀ n : Fin 17, ∀ k : Fin 33, v n.val k.val ≤ 100000000000000000 := by decide +kernel
/-- V of any whole numbers: 0 outside. -/
def vF (n k : Int) : Int := if 0 ≤ n ∧ n ≤ 16 ∧ 0 ≤ k ∧ k ≤ 32 then (v n.toNat k.toNat : Nat) else 0
theorem vF_bd (n k : Int) : 0 ≤ vF n k ∧ vF n k ≤ 100000000000000000 := by
  unfold vF
  split
  · rename_i h
    have := v_le ⟨n.toNat, by omega⟩ ⟨k.toNat, by omega⟩
    simp only at this
    omega
  · omega
theorem vF_out (n k : Int) (h : ¬(0 ≤ n ∧ n ≤ 16 ∧ 0 ≤ k ∧ k ≤ 32)) : vF n k = 0 := by unfold vF; rw [if_neg h]
theorem vF_zero (n : Int) (h : 0 ≤ n ∧ n ≤ 16) : vF n 0 = 1 := by
  unfold vF
  rw [if_pos (by omega)]
  have := v_zero ⟨n.toNat, by omega⟩
  simp only at this
  simp [this]
theorem vF_none (k : Int) (h : 1 ≤ k ∧ k ≤ 32) : vF 0 k = 0 := by
  unfold vF
  rw [if_pos (by omega)]
  have := v_none ⟨(k - 1).toNat, by omega⟩
  simp only at this
  rw [show (k - 1).toNat + 1 = k.toNat by omega] at this
  simp [this]
theorem vF_rec (n k : Int) (hn : 1 ≤ n ∧ n ≤ 16) (hk : 1 ≤ k ∧ k ≤ 32) : vF n k = vF (n - 1) k + vF n (k - 1) + vF (n - 1) (k - 1) := by
  unfold vF
  rw [if_pos (by omega), if_pos (by omega), if_pos (by omega), if_pos (by omega)]
  have := v_rec ⟨(n - 1).toNat, by omega⟩ ⟨(k - 1).toNat, by omega⟩
  simp only at this
  rw [show (n - 1).toNat + 1 = n.toNat by omega, show (k - 1).toNat + 1 = k.toNat by omega] at this
  omega
end Go.Vec
end

section
namespace Go
open Go.RowKit
theorem run_index_one {P : Program} (t e : TypeId) (n : Nat) (cs : Array Value) (k : Nat) (x : Value) (d : TypeDesc) (h : P.underlying t = some (.array n e)) (he : P.underlying e = some d) (hd : (∀ fs, d ≠ .struct fs) ∧ (∀ m f, d ≠ .array m f)) (hi : (P.info? e).map (·.size) = some 1) (hk : k < n) (hx : cs[k]? = some x) (w : World) :
    (Instr.index t (.agg cs) (.int .i64 k)).run P w = .ok x w := by
  have hagg : (isAgg e).run P w = .ok false w := by
    unfold isAgg
    rw [Sem.run_bind, run_underlying he w]
    cases d <;> simp_all
  cases hq : P.info? e with
  | none => simp [hq] at hi
  | some i =>
    have hs : i.size = 1 := by simpa [hq] using hi
    unfold Instr.index
    simp [Sem.run_bind, asIntOf, run_underlying h, hagg, sizeOf, typeInfo, hq, hs, part, hx, go_sem]
    omega
end Go
end

section
namespace Go.Proofs.YtbcdnbbpkikppaaDoor
open Go.RowKit Go.BigFrame Go.Vec
set_option linter.unusedSimpArgs false
def tabZ : Array Value := Array.replicate 1139 (.int .u64 0)
theorem tab_zero : ∃ cs, (∀ w, (zeroValue 161).run Tryd.prog w = .ok (.agg cs) w) ∧ cs.size = 1139 ∧ ∀ i, i < 1139 → cs[i]? = some (.int .u64 0) := by
  refine ⟨tabZ, fun _ => by kernel_rfl, by unfold tabZ; simp, fun i hi => ?_⟩
  unfold tabZ
  simp [hi]
/-- What stands in the table: V, and what V add up to. -/
def sm (n : Nat) : Nat → Nat
  | 0 => 0
  | k + 1 => sm n k + v n k
def tabG (i j : Nat) : Nat := if j < 33 then v i j else sm i (j - 33)
theorem tabG_le : ∀ i : Fin 17, ∀ j : Fin 67, tabG i.val j.val ≤ 4000000000000000000 := by decide +kernel
/-- Cells that are whole numbers; those that D names are as they shall be. -/
structure TabSt (cs : Array Value) (D : Nat → Nat → Prop) : Prop where
  size : cs.size = 1139
  at_ : ∀ i j, i < 17 → j < 67 → ∃ y : Int, cs[i * 67 + j]? = some (.int .u64 y) ∧ (D i j → y = (tabG i j : Nat))
theorem TabSt.done {cs : Array Value} {D : Nat → Nat → Prop} (h : TabSt cs D) (i j : Nat) (hi : i < 17) (hj : j < 67) (hd : D i j) : cs[i * 67 + j]? = some (.int .u64 (tabG i j : Nat)) := by
  obtain ⟨y, h1, h2⟩ := h.at_ i j hi hj
  rw [h1, h2 hd]
theorem TabSt.imp {cs : Array Value} {D D' : Nat → Nat → Prop} (h : TabSt cs D) (hd : ∀ i j, i < 17 → j < 67 → D' i j → D i j) : TabSt cs D' :=
  ⟨h.size, fun i j hi hj => by
    obtain ⟨y, h1, h2⟩ := h.at_ i j hi hj
    exact ⟨y, h1, fun d => h2 (hd i j hi hj d)⟩⟩
theorem TabSt.set {cs : Array Value} {D D' : Nat → Nat → Prop} (h : TabSt cs D) (i0 j0 : Nat) (hi : i0 < 17) (hj : j0 < 67) (x : Int) (hx : x = (tabG i0 j0 : Nat)) (o : Nat) (ho : o = i0 * 67 + j0)
    (hd : ∀ i j, i < 17 → j < 67 → D' i j → D i j ∨ (i = i0 ∧ j = j0)) : TabSt (cs.setIfInBounds o (.int .u64 x)) D' := by
  subst ho hx
  refine ⟨by simp [h.size], fun i j hi' hj' => ?_⟩
  by_cases e : i = i0 ∧ j = j0
  · obtain ⟨rfl, rfl⟩ := e
    exact ⟨_, Array.getElem?_setIfInBounds_self_of_lt (by rw [h.size]; omega), fun _ => rfl⟩
  · obtain ⟨y, h1, h2⟩ := h.at_ i j hi' hj'
    refine ⟨y, ?_, fun d => ?_⟩
    · rw [Array.getElem?_setIfInBounds_ne (by omega)]; exact h1
    · rcases hd i j hi' hj' d with d | d
      · exact h2 d
      · exact absurd d e
theorem tab_row0 : ∀ k : Fin 33, tabG 0 k.val = if k.val = 0 then 1 else 0 := by decide +kernel
def DO (n i j : Nat) : Prop := i < n ∨ (i = 0 ∧ j < 33) ∨ j = 33
def DV (n k i j : Nat) : Prop := DO n i j ∨ (i = n ∧ j < k)
def DS (n k i j : Nat) : Prop := DO n i j ∨ (i = n ∧ j < 34 + k)
theorem tab_first (cs : Array Value) (hs : cs.size = 1139) (h : ∀ i, i < 1139 → cs[i]? = some (.int .u64 0)) : TabSt (cs.setIfInBounds 0 (.int .u64 1)) (DO 0) := by
  refine ⟨by simp [hs], fun i j hi hj => ?_⟩
  by_cases e : i * 67 + j = 0
  · have e1 : i = 0 := by omega
    have e2 : j = 0 := by omega
    subst e1 e2
    exact ⟨1, Array.getElem?_setIfInBounds_self_of_lt (by rw [hs]; omega), fun _ => rfl⟩
  · refine ⟨0, by rw [Array.getElem?_setIfInBounds_ne (by omega)]; exact h _ (by omega), fun d => ?_⟩
    unfold DO at d
    rcases d with d | ⟨rfl, d⟩ | rfl
    · omega
    · have := tab_row0 ⟨j, d⟩
      simp only at this
      rw [this, if_neg (by omega)]
      rfl
    · simp [tabG, sm]
theorem tab_next (n k : Nat) (hn : n < 17) (hk : k < 33) : IntKind.u64.wrap ((tabG n (33 + k) : Nat) + (v n k : Nat) : Int) = (tabG n (33 + (k + 1)) : Nat) := by
  have h := tabG_le ⟨n, hn⟩ ⟨33 + (k + 1), by omega⟩
  simp only [tabG, if_neg (show ¬33 + (k + 1) < 33 by omega), if_neg (show ¬33 + k < 33 by omega), show 33 + (k + 1) - 33 = k + 1 by omega, show 33 + k - 33 = k by omega] at *
  simp only [sm] at *
  rw [IntKind.wrap_u64]
  omega
/-- A table lies at block b. -/
def TableOK (b : Nat) (w : World) : Prop := ∃ cs, w.heap[b]? = some (.cells cs 161 (0, 0)) ∧ TabSt cs (DO 17)
theorem TableOK.below {b B : Nat} {w w' : World} (h : TableOK b w) (hb : b < B) (hw : Below B w w') : TableOK b w' := by
  obtain ⟨cs, h1, h2⟩ := h
  exact ⟨cs, (hw.block b hb).trans h1, h2⟩
theorem tab_rec (n k : Nat) (hn0 : 1 ≤ n) (hn : n < 17) (hk0 : 1 ≤ k) (hk : k < 33) : IntKind.u64.wrap (IntKind.u64.wrap ((tabG (n - 1) k : Nat) + (tabG n (k - 1) : Nat) : Int) + (tabG (n - 1) (k - 1) : Nat)) = (tabG n k : Nat) := by
  have h := v_rec ⟨n - 1, by omega⟩ ⟨k - 1, by omega⟩
  have h1 := v_le ⟨n, hn⟩ ⟨k, hk⟩
  simp only [show n - 1 + 1 = n by omega, show k - 1 + 1 = k by omega] at h h1
  simp only [tabG, if_pos hk, if_pos (show k - 1 < 33 by omega)]
  rw [IntKind.wrap_u64, IntKind.wrap_u64]
  omega
theorem tab_one (n : Nat) (hn : n < 17) : tabG n 0 = 1 := by
  have := v_zero ⟨n, hn⟩
  simpa [tabG] using this
set_option maxRecDepth 100000 in
theorem tabNew (w : World) : Calls Tryd.prog 52 #[] w fun e w' => ∃ b, e = .returned (.pointer (some ⟨b, 0, none⟩)) ∧ w.heap.size ≤ b ∧ TableOK b w' ∧ Below w.heap.size w w' := by
  obtain ⟨cs, hz, hsz, hfz⟩ := tab_zero
  have hS := Lib.hid (tab_first cs hsz hfz)
  have h0 := hfz 0 (by omega)
  clear hfz
  go_enter Tryd.func52, Tryd.ntmps52
  go_wp2
  clear h0 hz hsz
  go_loopw [16] (fun cnt wr => ∃ n : Nat, n ≤ 17 ∧ cnt = .int .i64 n ∧ ∃ cs x, TabSt cs (DO n) ∧ wr = (w.alloc (.cells cs 161)).grew x) (fun cnt _ => 17 - (intOf cnt).toNat)
  case atStart => exact ⟨0, by omega, rfl, _, _, hS.out, (World.grew_none _).symm⟩
  case round =>
    obtain ⟨n, hn, rfl, cs2, x2, hT, rfl⟩ := hrel
    by_cases hlt : n < 17
    · have hlt' : (n : Int) < 17 := by omega
      have hsz := hT.size
      by_cases hn0 : (0 : Int) < n
      · have hn0' : ¬(n : Int) ≤ 0 := by omega
        have hn1 : (0 : Int) ≤ (n : Int) - 1 := by omega
        have hn2 : ((n : Int) - 1) < 17 := by omega
        obtain ⟨y0, f0, _⟩ := hT.at_ n 0 (by omega) (by omega)
        have hsz := hT.size
        rw [Nat.add_zero] at f0
        go_wp2_with fail
        go_loopw [5] (fun cnt wr => ∃ k : Nat, 1 ≤ k ∧ k ≤ 33 ∧ cnt = .int .i64 k ∧ ∃ cs x, TabSt cs (DV n k) ∧ wr = (w.alloc (.cells cs 161)).grew x) (fun cnt _ => 33 - (intOf cnt).toNat)
        case atStart => exact ⟨1, by omega, by omega, rfl, _, _, hT.set n 0 (by omega) (by omega) _ (by rw [tab_one n (by omega)]; rfl) _ (by omega) fun i j hi hj d => by
            unfold DV DO at *
            omega, rfl⟩
        case round =>
          obtain ⟨k, hk1, hk, rfl, csv, xv, hTv, rfl⟩ := hrel
          by_cases hkl : k < 33
          · have hkl' : (k : Int) < 33 := by omega
            have hsv := hTv.size
            have hk0 : (0 : Int) ≤ (k : Int) - 1 := by omega
            have hk33 : (k : Int) - 1 < 33 := by omega
            have u1 := hTv.done (n - 1) k (by omega) (by omega) (by unfold DV DO; omega)
            have u2 := hTv.done n (k - 1) (by omega) (by omega) (by unfold DV DO; omega)
            have u3 := hTv.done (n - 1) (k - 1) (by omega) (by omega) (by unfold DV DO; omega)
            obtain ⟨y, c2, _⟩ := hTv.at_ n k (by omega) (by omega)
            have E := Lib.hid (tab_rec n k (by omega) hlt hk1 hkl)
            go_wp2_with fail
            first | refine wp_region_grew2 27 (by kernel_rfl) (by kernel_rfl) ?_ | refine wp_region_grew 27 (by kernel_rfl) (by kernel_rfl) ?_
            simp only [List.take_succ_cons, List.take_zero, List.drop_succ_cons, List.drop_zero]
            repeat (go_big_quiet_step (fail))
            refine wpQuiet_nil ?_
            rintro _ ⟨x, rfl⟩
            go_wp2
            go_roundw
            case rel => exact ⟨k + 1, by omega, by omega, by go_num, _, _, hTv.set n k (by omega) (by omega) _ E.out _ (by omega) fun i j hi hj d => by
              unfold DV DO at *
              omega, rfl⟩
            case measure => simp [intOf]; omega
          · have hkl' : ¬(k : Int) < 33 := by omega
            have hT2 : TabSt csv (DV n 33) := hTv.imp fun i j hi hj d => by
              unfold DV DO at *
              omega
            have hsv := hTv.size
            obtain ⟨row, hrow⟩ : ∃ row : List Value, row = (List.range 33).map fun k => Value.int .u64 (v n k : Nat) := ⟨_, rfl⟩
            have hrl : row.length = 33 := by rw [hrow]; simp
            have hra : ∀ k, k < 33 → row[k]? = some (.int .u64 (v n k : Nat)) := fun k hk => by rw [hrow]; simp [hk]
            have hrg : ((w.alloc (.cells csv 161)).grew xv).rangeAt w.heap.size (n * 67) row := by
              intro j y hy
              have hj : j < 33 := by
                have := (List.getElem?_eq_some_iff.1 hy).1
                omega
              have h1 := hT2.done n j (by omega) (by omega) (.inr ⟨rfl, hj⟩)
              rw [hra j hj] at hy
              rw [← Option.some.inj hy]
              simp only [tabG, if_pos hj] at h1
              simp [go_sem, h1]
            have HR := Lib.hid hra
            have HG := Lib.hid hrg
            have hrl0 := hrl
            have hrs : row.toArray.size = 33 := by simpa using hrl
            clear hrow hra hrg hrl
            go_wp2_with (refine wpList_load_mid rfl 155 _ rfl w.heap.size (n * 67) rfl row _ HG.out Tryd.underlying155 rfl (by rw [hrl0]; kernel_rfl) ?_)
            go_loopw [71] (fun cnt wr => ∃ k : Nat, k ≤ 33 ∧ cnt = .int .i64 k ∧ ∃ cs x, TabSt cs (DS n k) ∧ wr = (w.alloc (.cells cs 161)).grew x) (fun cnt _ => 33 - (intOf cnt).toNat)
            case atStart => exact ⟨0, by omega, rfl, _, _, hT2.imp fun i j hi hj d => by
                unfold DS DO DV at *
                unfold DO at *
                omega, rfl⟩
            case round =>
              obtain ⟨k, hk, rfl, cs3, x3, hT3, rfl⟩ := hrel
              by_cases hkl : k < 33
              · have hkl' : (k : Int) < 33 := by omega
                have hsz3 := hT3.size
                have hrk := HR.out k hkl
                have hix := run_index_one (P := Tryd.prog) 155 64 33 row.toArray k _ _ Tryd.underlying155 Tryd.underlying64 (by refine ⟨fun _ h => ?_, fun _ _ h => ?_⟩ <;> cases h) (by kernel_rfl) hkl (by rw [List.getElem?_toArray]; exact hrk)
                have c1 := hT3.done n (33 + k) (by omega) (by omega) (by unfold DS; omega)
                obtain ⟨y, c2, _⟩ := hT3.at_ n (33 + (k + 1)) (by omega) (by omega)
                have E := Lib.hid (tab_next n k (by omega) hkl)
                rw [← Nat.add_assoc] at c1 c2
                go_wp2_with fail
                first | refine wp_region_grew2 14 (by kernel_rfl) (by kernel_rfl) ?_ | refine wp_region_grew 14 (by kernel_rfl) (by kernel_rfl) ?_
                simp only [List.take_succ_cons, List.take_zero, List.drop_succ_cons, List.drop_zero]
                repeat (go_big_quiet_step (fail))
                refine wpQuiet_nil ?_
                rintro _ ⟨x, rfl⟩
                go_wp2
                go_roundw
                case rel => exact ⟨k + 1, by omega, by go_num, _, _, hT3.set n (33 + (k + 1)) (by omega) (by omega) _ E.out _ (by omega) fun i j hi hj d => by
                  unfold DS DO at *
                  omega, rfl⟩
                case measure => simp [intOf]; omega
              · have hkl' : ¬(k : Int) < 33 := by omega
                go_wp2
                go_roundw
                case rel => exact ⟨n + 1, by omega, by go_num, _, _, hT3.imp fun i j hi hj d => by
                  unfold DS
                  unfold DO at *
                  omega, rfl⟩
                case measure => simp [intOf]; omega
      · have hT2 : TabSt cs2 (DV n 33) := hT.imp fun i j hi hj d => by
          unfold DV at d
          unfold DO at *
          omega
        obtain ⟨row, hrow⟩ : ∃ row : List Value, row = (List.range 33).map fun k => Value.int .u64 (v n k : Nat) := ⟨_, rfl⟩
        have hrl : row.length = 33 := by rw [hrow]; simp
        have hra : ∀ k, k < 33 → row[k]? = some (.int .u64 (v n k : Nat)) := fun k hk => by rw [hrow]; simp [hk]
        have hrg : ((w.alloc (.cells cs2 161)).grew x2).rangeAt w.heap.size (n * 67) row := by
          intro j y hy
          have hj : j < 33 := by
            have := (List.getElem?_eq_some_iff.1 hy).1
            omega
          have h1 := hT2.done n j (by omega) (by omega) (.inr ⟨rfl, hj⟩)
          rw [hra j hj] at hy
          rw [← Option.some.inj hy]
          simp only [tabG, if_pos hj] at h1
          simp [go_sem, h1]
        have HR := Lib.hid hra
        have HG := Lib.hid hrg
        have hrl0 := hrl
        have hrs : row.toArray.size = 33 := by simpa using hrl
        clear hrow hra hrg hrl
        go_wp2_with (refine wpList_load_mid rfl 155 _ rfl w.heap.size (n * 67) rfl row _ HG.out Tryd.underlying155 rfl (by rw [hrl0]; kernel_rfl) ?_)
        go_loopw [71] (fun cnt wr => ∃ k : Nat, k ≤ 33 ∧ cnt = .int .i64 k ∧ ∃ cs x, TabSt cs (DS n k) ∧ wr = (w.alloc (.cells cs 161)).grew x) (fun cnt _ => 33 - (intOf cnt).toNat)
        case atStart => exact ⟨0, by omega, rfl, _, _, hT2.imp fun i j hi hj d => by
            unfold DS DO DV at *
            unfold DO at *
            omega, rfl⟩
        case round =>
          obtain ⟨k, hk, rfl, cs3, x3, hT3, rfl⟩ := hrel
          by_cases hkl : k < 33
          · have hkl' : (k : Int) < 33 := by omega
            have hsz3 := hT3.size
            have hrk := HR.out k hkl
            have hix := run_index_one (P := Tryd.prog) 155 64 33 row.toArray k _ _ Tryd.underlying155 Tryd.underlying64 (by refine ⟨fun _ h => ?_, fun _ _ h => ?_⟩ <;> cases h) (by kernel_rfl) hkl (by rw [List.getElem?_toArray]; exact hrk)
            have c1 := hT3.done n (33 + k) (by omega) (by omega) (by unfold DS; omega)
            obtain ⟨y, c2, _⟩ := hT3.at_ n (33 + (k + 1)) (by omega) (by omega)
            have E := Lib.hid (tab_next n k (by omega) hkl)
            rw [← Nat.add_assoc] at c1 c2
            go_wp2_with fail
            first | refine wp_region_grew2 14 (by kernel_rfl) (by kernel_rfl) ?_ | refine wp_region_grew 14 (by kernel_rfl) (by kernel_rfl) ?_
            simp only [List.take_succ_cons, List.take_zero, List.drop_succ_cons, List.drop_zero]
            repeat (go_big_quiet_step (fail))
            refine wpQuiet_nil ?_
            rintro _ ⟨x, rfl⟩
            go_wp2
            go_roundw
            case rel => exact ⟨k + 1, by omega, by go_num, _, _, hT3.set n (33 + (k + 1)) (by omega) (by omega) _ E.out _ (by omega) fun i j hi hj d => by
              unfold DS DO at *
              omega, rfl⟩
            case measure => simp [intOf]; omega
          · have hkl' : ¬(k : Int) < 33 := by omega
            go_wp2
            go_roundw
            case rel => exact ⟨n + 1, by omega, by go_num, _, _, hT3.imp fun i j hi hj d => by
              unfold DS
              unfold DO at *
              omega, rfl⟩
            case measure => simp [intOf]; omega
    · have hlt' : ¬(n : Int) < 17 := by omega
      go_wp2
      go_ret
      obtain rfl : n = 17 := by omega
      refine ⟨w.heap.size, rfl, Nat.le_refl _, ⟨cs2, ?_, hT⟩, by (repeat' (first | with_reducible (first | exact Below.refl _ _ | assumption | refine Below.alloc ?_ ?_ _ | refine below_grew ?_ ?_ _ | refine Below.setCell ?_ ?_ _ | refine Below.drew ?_ | refine below_drewN ?_ _) | omega | (simp; done) | (simp; omega)))⟩
      rw [World.grew_block _ _ _ (by simp)]
      exact heap_alloc_new w _
end Go.Proofs.YtbcdnbbpkikppaaDoor
end

section
namespace Go.Proofs.YtbcdnbbpkikppaaDoor
open Go.RowKit Go.BigFrame Go.Vec
set_option linter.unusedSimpArgs false
theorem tabV_in (b : Nat) (w : World) (hT : TableOK b w) (n k : Nat) (hn : n < 17) (hk : k < 33) : Calls Tryd.prog 80 #[.pointer (some ⟨b, 0, none⟩), .int .i64 n, .int .i64 k] w fun e w' => e = .returned (.int .u64 (vF n k)) ∧ w = w' := by
  obtain ⟨cs, hc, hS⟩ := hT
  have h1 := hS.done n k hn (by omega) (by unfold DO; omega)
  have h2 : w.cell? ⟨b, n * 67 + k, none⟩ = some (.int .u64 (tabG n k : Nat)) := by simp [World.cell?, hc, h1]
  have E := Lib.hid (show ((tabG n k : Nat) : Int) = vF n k from by unfold tabG vF; rw [if_pos hk, if_pos (by omega)]; simp)
  have i1 : ¬(n : Int) < 0 := by omega
  have i2 : (n : Int) ≤ 16 := by omega
  have i3 : ¬(k : Int) < 0 := by omega
  have i4 : (k : Int) ≤ 32 := by omega
  clear h1 hc hS
  go_enter Tryd.func80, Tryd.ntmps80
  go_wp2
  go_ret
  exact ⟨ret_int E.out, rfl⟩
theorem tabV (b : Nat) (w : World) (hT : TableOK b w) (n k : Int) : Calls Tryd.prog 80 #[.pointer (some ⟨b, 0, none⟩), .int .i64 n, .int .i64 k] w fun e w' => e = .returned (.int .u64 (vF n k)) ∧ w = w' := by
  by_cases h1 : 0 ≤ n
  · by_cases h2 : n ≤ 16
    · by_cases h3 : 0 ≤ k
      · by_cases h4 : k ≤ 32
        · obtain ⟨N, rfl⟩ := Int.eq_ofNat_of_zero_le h1
          obtain ⟨K, rfl⟩ := Int.eq_ofNat_of_zero_le h3
          exact tabV_in b w hT N K (by omega) (by omega)
        · have E := Lib.hid (vF_out n k (by omega))
          go_enter Tryd.func80, Tryd.ntmps80
          go_wp2
          go_ret
          exact ⟨ret_int E.out.symm, rfl⟩
      · have E := Lib.hid (vF_out n k (by omega))
        go_enter Tryd.func80, Tryd.ntmps80
        go_wp2
        go_ret
        exact ⟨ret_int E.out.symm, rfl⟩
    · have E := Lib.hid (vF_out n k (by omega))
      go_enter Tryd.func80, Tryd.ntmps80
      go_wp2
      go_ret
      exact ⟨ret_int E.out.symm, rfl⟩
  · have E := Lib.hid (vF_out n k (by omega))
    go_enter Tryd.func80, Tryd.ntmps80
    go_wp2
    go_ret
    exact ⟨ret_int E.out.symm, rfl⟩
end Go.Proofs.YtbcdnbbpkikppaaDoor
end

section
namespace Go.Cost
open Go.Vec
def capS (n : Nat) : Nat := ((List.range 32).takeWhile fun k => decide (v n (k + 1) ≤ 1048576)).length
def cap (n : Nat) : Nat := if n ≤ 8 then capS n else min (capS (n / 2)) (capS (n - n / 2))
def bitsS (n k : Nat) : Nat := if k = 0 then 0 else Lib.bitLen (v n k - 1) + 1
def mx (n k : Nat) : Nat → Nat
  | 0 => 0
  | a + 1 => max (mx n k a) (bitsS (n / 2) a + bitsS (n - n / 2) (k - a))
def pays (n k : Nat) : Nat := if k = 0 then 0 else if n ≤ 8 then bitsS n k else Lib.bitLen k + 1 + mx n k (k + 1)
theorem capS_in : ∀ n : Fin 9, ∀ k : Fin 32, k.val < capS n.val → v n.val (k.val + 1) ≤ 1048576 := by decide +kernel
theorem capS_out : ∀ n : Fin 9, capS n.val < 32 → 1048576 < v n.val (capS n.val + 1) := by decide +kernel
theorem cap_le : ∀ n : Fin 17, cap n.val ≤ 32 := by decide +kernel
theorem pays_le : ∀ n : Fin 17, ∀ k : Fin 33, pays n.val k.val ≤ 200 := by decide +kernel
theorem bitsS_le : ∀ n : Fin 17, ∀ k : Fin 33, bitsS n.val k.val ≤ 100 := by decide +kernel
theorem v_pos : ∀ n : Fin 16, ∀ k : Fin 32, 2 ≤ v (n.val + 1) (k.val + 1) := by decide +kernel
theorem mx_le (n k : Nat) (hn : n ≤ 16) (hk : k ≤ 32) : ∀ a, a ≤ k + 1 → mx n k a ≤ 200
  | 0, _ => by simp [mx]
  | a + 1, h => by
    have h1 := mx_le n k hn hk a (by omega)
    have h2 := bitsS_le ⟨n / 2, by omega⟩ ⟨a, by omega⟩
    have h3 := bitsS_le ⟨n - n / 2, by omega⟩ ⟨k - a, by omega⟩
    simp only at h2 h3
    simp only [mx]
    omega
/-- The greatest number of pulses: -1 outside. -/
def capF (n : Int) : Int := if 1 ≤ n ∧ n ≤ 16 then (cap n.toNat : Nat) else -1
/-- What pulses cost: -1 outside. -/
def bitsF (n k : Int) : Int := if 0 ≤ k ∧ k ≤ capF n then (pays n.toNat k.toNat : Nat) else -1
theorem capF_in (n : Int) (h : 1 ≤ n ∧ n ≤ 16) : capF n = (cap n.toNat : Nat) := by unfold capF; rw [if_pos h]
theorem capF_out (n : Int) (h : ¬(1 ≤ n ∧ n ≤ 16)) : capF n = -1 := by unfold capF; rw [if_neg h]
theorem capF_bd (n : Int) : -1 ≤ capF n ∧ capF n ≤ 32 := by
  unfold capF
  split
  · rename_i h
    have := cap_le ⟨n.toNat, by omega⟩
    simp only at this
    omega
  · omega
theorem capF_pos (n k : Int) (h0 : 0 ≤ k) (h : k ≤ capF n) : 1 ≤ n ∧ n ≤ 16 ∧ k ≤ 32 := by
  have hb := capF_bd n
  unfold capF at h
  split at h
  · rename_i h1
    have := cap_le ⟨n.toNat, by omega⟩
    simp only at this
    exact ⟨h1.1, h1.2, by omega⟩
  · omega
/-- The round of 'Cap': one more pulse. -/
theorem cap_step (n : Int) (k : Nat) (h : 1 ≤ n ∧ n ≤ 8) (hk : k < 32) (hc : k ≤ cap n.toNat) : decide (vF n ((k : Int) + 1) ≤ 1048576) = decide (k < cap n.toNat) := by
  have e : cap n.toNat = capS n.toNat := by unfold cap; rw [if_pos (by omega)]
  rw [e] at hc ⊢
  unfold vF
  rw [if_pos (by omega)]
  have e2 : ((k : Int) + 1).toNat = k + 1 := by omega
  rw [e2]
  have h1 := capS_in ⟨n.toNat, by omega⟩ ⟨k, by omega⟩
  have h2 := capS_out ⟨n.toNat, by omega⟩
  simp only at h1 h2
  by_cases hlt : k < capS n.toNat
  · have := h1 hlt
    rw [decide_eq_true hlt, decide_eq_true (by omega)]
  · have : k = capS n.toNat := by omega
    subst this
    have := h2 hk
    rw [decide_eq_false hlt, decide_eq_false (by omega)]
theorem cap_32 (n : Int) (h : 1 ≤ n ∧ n ≤ 8) : cap n.toNat ≤ 32 := by
  have := cap_le ⟨n.toNat, by omega⟩
  simpa using this
theorem cap_wide (n : Int) (h : 9 ≤ n ∧ n ≤ 16) : capF n = min (capF (n / 2)) (capF (n - n / 2)) := by
  rw [capF_in n (by omega), capF_in (n / 2) (by omega), capF_in (n - n / 2) (by omega)]
  unfold cap
  rw [if_neg (by omega), if_pos (by omega), if_pos (by omega), show (n / 2).toNat = n.toNat / 2 by omega, show (n - n / 2).toNat = n.toNat - n.toNat / 2 by omega]
  omega
theorem pays_small (n k : Int) (hn : 1 ≤ n ∧ n ≤ 8) (hk : 1 ≤ k ∧ k ≤ 32) : (pays n.toNat k.toNat : Nat) = (Lib.bitLen (IntKind.u64.wrap (vF n k - 1)).toNat : Nat) + 1 := by
  unfold pays bitsS vF
  have := v_pos ⟨(n - 1).toNat, by omega⟩ ⟨(k - 1).toNat, by omega⟩
  have hle := v_le ⟨n.toNat, by omega⟩ ⟨k.toNat, by omega⟩
  simp only at this hle
  rw [show (n - 1).toNat + 1 = n.toNat by omega, show (k - 1).toNat + 1 = k.toNat by omega] at this
  rw [if_neg (by omega), if_pos (by omega), if_neg (by omega), if_pos (by omega), IntKind.wrap_u64]
  congr 2
  omega
theorem pays_zero (n : Nat) : pays n 0 = 0 := rfl
theorem pays_eqS (n k : Nat) (hn : n ≤ 8) : pays n k = bitsS n k := by
  unfold pays bitsS
  by_cases h : k = 0
  · rw [if_pos h, if_pos h]
  · rw [if_neg h, if_neg h, if_pos hn]
theorem mx_step (n k : Int) (a : Nat) (hn : 9 ≤ n ∧ n ≤ 16) (ha : a ≤ k.toNat) (h0 : 0 ≤ k) :
    mx n.toNat k.toNat (a + 1) = max (mx n.toNat k.toNat a) (pays (n / 2).toNat a + pays (n - n / 2).toNat (k - a).toNat) := by
  rw [pays_eqS _ _ (by omega), pays_eqS _ _ (by omega)]
  simp only [mx]
  rw [show (n / 2).toNat = n.toNat / 2 by omega, show (n - n / 2).toNat = n.toNat - n.toNat / 2 by omega, show (k - a).toNat = k.toNat - a by omega]
theorem pays_wide (n k : Int) (hn : 9 ≤ n ∧ n ≤ 16) (hk : 1 ≤ k ∧ k ≤ 32) : (pays n.toNat k.toNat : Nat) = ((Lib.bitLen k.toNat : Nat) : Int) + 1 + ((mx n.toNat k.toNat (k.toNat + 1) : Nat) : Int) := by
  unfold pays
  rw [if_neg (by omega), if_neg (by omega)]
  omega
end Go.Cost
end

section
set_option linter.unusedSimpArgs false
namespace Go.Proofs.YtbcdnbbpkikppaaDoor
open Go.RowKit Go.BigFrame
theorem len_run (x : Int) (w : World) (h0 : 0 ≤ x) (h1 : x ≤ 18446744073709551615) :
    Calls Tryd.prog 102 #[.int .u64 x] w fun e w' => e = .returned (.int .i64 (Lib.bitLen x.toNat)) ∧ w = w' := (Tryd.bits_Len x w h0 h1).mono fun _ _ ⟨a, b⟩ => ⟨a, b.symm⟩
theorem len64_run (x : Int) (w : World) (h0 : 0 ≤ x) (h1 : x ≤ 18446744073709551615) :
    Calls Tryd.prog 101 #[.int .u64 x] w fun e w' => e = .returned (.int .i64 (Lib.bitLen x.toNat)) ∧ w = w' := (Tryd.bits_Len64 x w h0 h1).mono fun _ _ ⟨a, b⟩ => ⟨a, b.symm⟩
end Go.Proofs.YtbcdnbbpkikppaaDoor
end

section
namespace Go.Proofs.YtbcdnbbpkikppaaDoor
open Go.RowKit Go.BigFrame Go.Vec Go.Cost
set_option linter.unusedSimpArgs false
theorem work_small (s t : Nat) (w : World) (hT : TableOK t w) (n k : Int) (hn : 1 ≤ n ∧ n ≤ 8) (hk : 1 ≤ k ∧ k ≤ 32) :
    Calls Tryd.prog 81 #[.pointer (some ⟨s, 0, none⟩), .pointer (some ⟨t, 0, none⟩), .int .i64 n, .int .i64 k] w fun e w' => e = .returned (.int .i64 ((pays n.toNat k.toNat : Nat) : Int)) ∧ w = w' := by
  have HV := Lib.hid (tabV t w hT n k)
  have E := Lib.hid (pays_small n k hn hk)
  have hl := Lib.hid (fun w => len64_run (IntKind.u64.wrap (vF n k - 1)) w (by rw [IntKind.wrap_u64]; omega) (by rw [IntKind.wrap_u64]; omega))
  have hbd : (Lib.bitLen (IntKind.u64.wrap (vF n k - 1)).toNat : Int) ≤ 200 := by
    have := pays_le ⟨n.toNat, by omega⟩ ⟨k.toNat, by omega⟩
    have e := E.out
    simp only at this
    omega
  obtain ⟨n1, n2⟩ := hn
  obtain ⟨k1, k2⟩ := hk
  clear hT
  go_enter Tryd.func81, Tryd.ntmps81
  go_wp2_with (first | (go_at_call 80; refine HV.out.mono ?_; rintro e w' ⟨rfl, rfl⟩) | (go_at_call 101; refine (hl.out _).mono ?_; rintro e w' ⟨rfl, rfl⟩))
  go_ret
  exact ⟨ret_int (by rw [E.out]; omega), rfl⟩
theorem pays_100 (n k : Nat) (hn : n ≤ 16) (hk : k ≤ 32) : pays n k ≤ 200 := by
  have := pays_le ⟨n, by omega⟩ ⟨k, by omega⟩
  simpa using this
theorem work_wide (s t : Nat) (w : World) (n k : Nat) (hn : 9 ≤ n ∧ n ≤ 16) (hk : 1 ≤ k ∧ k ≤ 32) (hb : s < w.heap.size)
    (hS : ∀ i j, (i = n / 2 ∨ i = n - n / 2) → j ≤ k → w.cell? ⟨s, 17 + i * 33 + j, none⟩ = some (.int .i64 (pays i j : Nat))) :
    Calls Tryd.prog 81 #[.pointer (some ⟨s, 0, none⟩), .pointer (some ⟨t, 0, none⟩), .int .i64 n, .int .i64 k] w fun e w' => e = .returned (.int .i64 ((pays n k : Nat) : Int)) ∧ Below w.heap.size w w' := by
  have hl := Lib.hid (fun w => len_run (k : Int) w (by omega) (by omega))
  have hM := Lib.hid (fun (a : Nat) ha => mx_step n k a (by omega) ha (by omega))
  have hMb := Lib.hid (mx_le n k (by omega) (by omega))
  have E := Lib.hid (pays_wide n k (by omega) (by omega))
  have HS := Lib.hid hS
  have hlb : (Lib.bitLen k : Int) ≤ 200 := by
    have := pays_100 n k (by omega) (by omega)
    have e := E.out
    simp only [Int.toNat_natCast] at e
    omega
  have hM0 : mx n k 0 = 0 := rfl
  simp only [Int.toNat_natCast] at hM E
  generalize mx n k = M at *
  obtain ⟨n1, n2⟩ := hn
  obtain ⟨k1, k2⟩ := hk
  have n1' : ¬(n : Int) ≤ 8 := by omega
  clear hS
  go_enter Tryd.func81, Tryd.ntmps81
  go_wp2
  go_loopw [9, 22] (fun most cnt wr => ∃ a : Nat, a ≤ k + 1 ∧ cnt = .int .i64 a ∧ most = .int .i64 (M a : Nat) ∧ ∃ x, wr = w.grew x) (fun _ cnt _ => k + 1 - (intOf cnt).toNat)
  case atStart => exact ⟨0, by omega, rfl, by rw [hM0]; rfl, World.as_grew _⟩
  case round =>
    obtain ⟨a, ha, rfl, rfl, x, rfl⟩ := hrel
    by_cases hlt : a < k + 1
    · have hlt' : (a : Int) < (k : Int) + 1 := by omega
      have m1 := hMb.out a (by omega)
      have c1 := HS.out (n / 2) a (.inl rfl) (by omega)
      have c2 := HS.out (n - n / 2) (k - a) (.inr rfl) (by omega)
      have p1 := pays_100 (n / 2) a (by omega) (by omega)
      have p2 := pays_100 (n - n / 2) (k - a) (by omega) (by omega)
      have e : M (a + 1) = max (M a) (pays (n / 2) a + pays (n - n / 2) (k - a)) := by
        have e := hM.out a (by omega)
        rw [show ((n : Int) / 2).toNat = n / 2 by omega, show ((n : Int) - (n : Int) / 2).toNat = n - n / 2 by omega, show ((k : Int) - (a : Int)).toNat = k - a by omega] at e
        exact e
      go_wp2_with fail
      first | refine wp_region_grew_all2 (by kernel_rfl) (by kernel_rfl) ?_ | refine wp_region_grew_all (by kernel_rfl) (by kernel_rfl) ?_
      repeat (go_big_quiet_step (fail))
      refine wpQuiet_nil ?_
      rintro _ ⟨x, rfl⟩
      go_wp2
      go_roundw
      case rel => exact ⟨a + 1, by omega, by go_num, by rw [e]; congr 1; omega, _, rfl⟩
      case measure => simp [intOf]; omega
    · have hlt' : ¬(a : Int) < (k : Int) + 1 := by omega
      have m1 := hMb.out a (by omega)
      go_wp2_with (go_at_call 102; refine (hl.out _).mono ?_; rintro e w' ⟨rfl, rfl⟩)
      go_ret
      have hak : a = k + 1 := by omega
      exact ⟨ret_int (by rw [E.out, hak]), by (repeat' (first | with_reducible (first | exact Below.refl _ _ | assumption | refine Below.alloc ?_ ?_ _ | refine below_grew ?_ ?_ _ | refine Below.setCell ?_ ?_ _ | refine Below.drew ?_ | refine below_drewN ?_ _) | omega | (simp; done) | (simp; omega)))⟩
theorem work_any (s t : Nat) (w : World) (hT : TableOK t w) (n k : Nat) (hn : 1 ≤ n ∧ n ≤ 16) (hk : 1 ≤ k ∧ k ≤ 32) (hb : s < w.heap.size)
    (hS : 9 ≤ n → ∀ i j, (i = n / 2 ∨ i = n - n / 2) → j ≤ k → w.cell? ⟨s, 17 + i * 33 + j, none⟩ = some (.int .i64 (pays i j : Nat))) :
    Calls Tryd.prog 81 #[.pointer (some ⟨s, 0, none⟩), .pointer (some ⟨t, 0, none⟩), .int .i64 n, .int .i64 k] w fun e w' => e = .returned (.int .i64 ((pays n k : Nat) : Int)) ∧ Below w.heap.size w w' := by
  by_cases h : n ≤ 8
  · refine (work_small s t w hT n k (by omega) (by omega)).mono fun e w' ⟨h1, h2⟩ => ⟨by simpa using h1, by subst h2; exact Below.refl _ _⟩
  · exact work_wide s t w n k (by omega) hk hb (hS (by omega))
end Go.Proofs.YtbcdnbbpkikppaaDoor
end

section
namespace Go.Proofs.YtbcdnbbpkikppaaDoor
open Go.RowKit Go.BigFrame Go.Vec Go.Cost
set_option linter.unusedSimpArgs false
def capG (i : Nat) : Int := if i = 0 then -1 else (cap i : Nat)
structure ShSt (cs : Array Value) (C : Nat → Prop) (B : Nat → Nat → Prop) : Prop where
  size : cs.size = 578
  caps : ∀ i, i < 17 → ∃ y : Int, cs[i]? = some (.int .i64 y) ∧ (C i → y = capG i)
  bits : ∀ i j, i < 17 → j < 33 → ∃ y : Int, cs[17 + i * 33 + j]? = some (.int .i64 y) ∧ (B i j → y = (pays i j : Nat))
section
variable {cs : Array Value} {C C' : Nat → Prop} {B B' : Nat → Nat → Prop}
theorem ShSt.cap_done (h : ShSt cs C B) (i : Nat) (hi : i < 17) (hd : C i) : cs[i]? = some (.int .i64 (capG i)) := by
  obtain ⟨y, h1, h2⟩ := h.caps i hi
  rw [h1, h2 hd]
theorem ShSt.bits_done (h : ShSt cs C B) (i j : Nat) (hi : i < 17) (hj : j < 33) (hd : B i j) : cs[17 + i * 33 + j]? = some (.int .i64 (pays i j : Nat)) := by
  obtain ⟨y, h1, h2⟩ := h.bits i j hi hj
  rw [h1, h2 hd]
theorem ShSt.imp (h : ShSt cs C B) (hc : ∀ i, i < 17 → C' i → C i) (hb : ∀ i j, i < 17 → j < 33 → B' i j → B i j) : ShSt cs C' B' :=
  ⟨h.size, fun i hi => by
    obtain ⟨y, h1, h2⟩ := h.caps i hi
    exact ⟨y, h1, fun d => h2 (hc i hi d)⟩, fun i j hi hj => by
    obtain ⟨y, h1, h2⟩ := h.bits i j hi hj
    exact ⟨y, h1, fun d => h2 (hb i j hi hj d)⟩⟩
theorem ShSt.learn (h : ShSt cs C B) (i0 : Nat) (hv : cs[i0]? = some (.int .i64 (capG i0))) (hc : ∀ i, C' i → C i ∨ i = i0) : ShSt cs C' B :=
  ⟨h.size, fun i hi => by
    by_cases e : i = i0
    · subst e; exact ⟨_, hv, fun _ => rfl⟩
    · obtain ⟨y, h1, h2⟩ := h.caps i hi
      exact ⟨y, h1, fun d => h2 ((hc i d).resolve_right e)⟩, h.bits⟩
/-- A cap is set: to whatever ('C'' leaves it out) or to what it shall be. -/
theorem ShSt.set_cap (h : ShSt cs C B) (i0 : Nat) (hi : i0 < 17) (x : Int) (hx : C' i0 → x = capG i0) (hc : ∀ i, i < 17 → i ≠ i0 → C' i → C i) (hb : ∀ i j, i < 17 → j < 33 → B' i j → B i j) : ShSt (cs.setIfInBounds i0 (.int .i64 x)) C' B' := by
  refine ⟨by simp [h.size], fun i hi' => ?_, fun i j hi' hj' => ?_⟩
  · by_cases e : i = i0
    · subst e
      exact ⟨x, Array.getElem?_setIfInBounds_self_of_lt (by rw [h.size]; omega), hx⟩
    · obtain ⟨y, h1, h2⟩ := h.caps i hi'
      exact ⟨y, by rw [Array.getElem?_setIfInBounds_ne (by omega)]; exact h1, fun d => h2 (hc i hi' e d)⟩
  · obtain ⟨y, h1, h2⟩ := h.bits i j hi' hj'
    exact ⟨y, by rw [Array.getElem?_setIfInBounds_ne (by omega)]; exact h1, fun d => h2 (hb i j hi' hj' d)⟩
theorem ShSt.set_bits (h : ShSt cs C B) (i0 j0 : Nat) (hi : i0 < 17) (hj : j0 < 33) (x : Int) (hx : x = (pays i0 j0 : Nat)) (o : Nat) (ho : o = 17 + i0 * 33 + j0)
    (hc : ∀ i, i < 17 → C' i → C i) (hb : ∀ i j, i < 17 → j < 33 → B' i j → B i j ∨ (i = i0 ∧ j = j0)) : ShSt (cs.setIfInBounds o (.int .i64 x)) C' B' := by
  subst ho hx
  refine ⟨by simp [h.size], fun i hi' => ?_, fun i j hi' hj' => ?_⟩
  · obtain ⟨y, h1, h2⟩ := h.caps i hi'
    exact ⟨y, by rw [Array.getElem?_setIfInBounds_ne (by omega)]; exact h1, fun d => h2 (hc i hi' d)⟩
  · by_cases e : i = i0 ∧ j = j0
    · obtain ⟨rfl, rfl⟩ := e
      exact ⟨_, Array.getElem?_setIfInBounds_self_of_lt (by rw [h.size]; omega), fun _ => rfl⟩
    · obtain ⟨y, h1, h2⟩ := h.bits i j hi' hj'
      refine ⟨y, by rw [Array.getElem?_setIfInBounds_ne (by omega)]; exact h1, fun d => ?_⟩
      rcases hb i j hi' hj' d with d | d
      · exact h2 d
      · exact absurd d e
end
def ShC (n i : Nat) : Prop := i < n
def ShB (n i j : Nat) : Prop := j = 0 ∨ (1 ≤ i ∧ i < n ∧ j ≤ cap i)
def ShBk (n k i j : Nat) : Prop := ShB n i j ∨ (i = n ∧ j < k)
theorem ShBk.one {n i j : Nat} (d : ShBk n 1 i j) : ShB n i j := by
  unfold ShBk at d
  rcases d with d | d
  · exact d
  · exact .inl (by omega)
theorem sheet_first (cs : Array Value) (hs : cs.size = 578) (h : ∀ i, i < 578 → cs[i]? = some (.int .i64 0)) : ShSt (cs.setIfInBounds 0 (.int .i64 (-1))) (ShC 1) (ShB 1) := by
  have h0 : ShSt cs (fun _ => False) (ShB 1) := ⟨hs, fun i hi => ⟨0, h i (by omega), fun d => d.elim⟩, fun i j hi hj => ⟨0, h _ (by omega), fun d => by
    unfold ShB at d
    obtain rfl : j = 0 := by omega
    rfl⟩⟩
  exact h0.set_cap 0 (by omega) _ (fun _ => rfl) (fun i hi hne d => by unfold ShC at d; omega) (fun _ _ _ _ d => d)
def shZ : Array Value := Array.replicate 578 (.int .i64 0)
theorem sheet_zero : ∃ cs, (∀ w, (zeroValue 169).run Tryd.prog w = .ok (.agg cs) w) ∧ cs.size = 578 ∧ ∀ i, i < 578 → cs[i]? = some (.int .i64 0) := by
  refine ⟨shZ, fun _ => by kernel_rfl, by unfold shZ; simp, fun i hi => ?_⟩
  unfold shZ
  simp [hi]
/-- A sheet lies at block b. -/
def SheetOK (b : Nat) (w : World) : Prop := ∃ cs, w.heap[b]? = some (.cells cs 169 (0, 0)) ∧ ShSt cs (ShC 17) (ShB 17)
theorem SheetOK.below {b B : Nat} {w w' : World} (h : SheetOK b w) (hb : b < B) (hw : Below B w w') : SheetOK b w' := by
  obtain ⟨cs, h1, h2⟩ := h
  exact ⟨cs, (hw.block b hb).trans h1, h2⟩
theorem cap_over : ∀ n : Fin 8, ∀ c : Fin 33, (1048576 < v (n.val + 1) c.val) ↔ cap (n.val + 1) < c.val := by decide +kernel
theorem cap_le32 (n : Nat) (hn : n < 17) : cap n ≤ 32 := cap_le ⟨n, hn⟩
theorem cap_half : ∀ n : Fin 8, cap (n.val + 9) = min (cap ((n.val + 9) / 2)) (cap (n.val + 9 - (n.val + 9) / 2)) := by decide +kernel
theorem vF_nat (n c : Nat) (hn : n < 17) (hc : c < 33) : vF n c = (v n c : Nat) := by
  unfold vF
  rw [if_pos (by omega)]
  simp
set_option maxRecDepth 100000 in
theorem sheetNew (t : Nat) (w : World) (hT : TableOK t w) (ht : t < w.heap.size) : Calls Tryd.prog 54 #[.pointer (some ⟨t, 0, none⟩)] w fun e w' => ∃ b, e = .returned (.pointer (some ⟨b, 0, none⟩)) ∧ w.heap.size ≤ b ∧ SheetOK b w' ∧ Below w.heap.size w w' := by
  obtain ⟨cs, hz, hsz, hfz⟩ := sheet_zero
  have hS := Lib.hid (sheet_first cs hsz hfz)
  have h0 := hfz 0 (by omega)
  have HT := Lib.hid hT
  clear hfz hT
  go_enter Tryd.func54, Tryd.ntmps54
  go_wp2
  clear h0 hz hsz
  go_loopw [4] (fun cnt wr => ∃ n : Nat, 1 ≤ n ∧ n ≤ 17 ∧ cnt = .int .i64 n ∧ ∃ cs x, ShSt cs (ShC n) (ShB n) ∧ wr = (w.alloc (.cells cs 169)).grew x) (fun cnt _ => 17 - (intOf cnt).toNat)
  case atStart => exact ⟨1, by omega, by omega, rfl, _, _, hS.out, (World.grew_none _).symm⟩
  case round =>
    obtain ⟨n, hn1, hn, rfl, cs2, x2, hT, rfl⟩ := hrel
    by_cases hlt : n < 17
    · have hlt' : (n : Int) ≤ 16 := by omega
      have hsz := hT.size
      by_cases hn8 : n ≤ 8
      · have hn8' : (n : Int) ≤ 8 := by omega
        obtain ⟨y0, f0, _⟩ := hT.caps n (by omega)
        have hn17 : (n : Int) < 17 := by omega
        go_wp2_with fail
        go_loopw [33] (fun _ wr => ∃ c : Nat, cap n ≤ c ∧ c ≤ 32 ∧ ∃ cs x, cs[n]? = some (.int .i64 c) ∧ ShSt cs (ShC n) (ShB n) ∧ wr = (w.alloc (.cells cs 169)).grew x) (fun _ wr => (intOf ((wr.cell? ⟨w.heap.size, n, none⟩).getD (.bool false))).toNat)
        case atStart => exact ⟨32, cap_le32 n (by omega), by omega, _, _, Array.getElem?_setIfInBounds_self_of_lt (by rw [hT.size]; omega), hT.set_cap n (by omega) _ (fun d => by unfold ShC at d; omega) (fun _ _ _ d => d) (fun _ _ _ _ d => d), rfl⟩
        case round =>
          obtain ⟨c, hc1, hc2, cs3, x3, f1, hT3, rfl⟩ := hrel
          have hsz3 := hT3.size
          have HV := Lib.hid (fun x => tabV t ((w.alloc (.cells cs3 169)).grew x) (HT.out.below ht (by (repeat' (first | with_reducible (first | exact Below.refl _ _ | assumption | refine Below.alloc ?_ ?_ _ | refine below_grew ?_ ?_ _ | refine Below.setCell ?_ ?_ _ | refine Below.drew ?_ | refine below_drewN ?_ _) | omega | (simp; done) | (simp; omega))))) n c)
          have hov := cap_over ⟨n - 1, by omega⟩ ⟨c, by omega⟩
          simp only [show n - 1 + 1 = n by omega] at hov
          rw [vF_nat n c (by omega) (by omega)] at HV
          by_cases hlc : cap n < c
          · have hov' : (1048576 : Int) < (v n c : Nat) := by have := hov.2 hlc; omega
            clear hov
            go_wp2_with (go_at_call 80; refine (HV.out _).mono ?_; rintro e w' ⟨rfl, rfl⟩)
            first | refine wp_region_grew2 10 (by kernel_rfl) (by kernel_rfl) ?_ | refine wp_region_grew 10 (by kernel_rfl) (by kernel_rfl) ?_
            simp only [List.take_succ_cons, List.take_zero, List.drop_succ_cons, List.drop_zero]
            repeat (go_big_quiet_step (fail))
            refine wpQuiet_nil ?_
            rintro _ ⟨x, rfl⟩
            go_wp2
            go_roundw
            case rel => exact ⟨c - 1, by omega, by omega, cs3.setIfInBounds n (.int .i64 (c - 1 : Nat)), x, Array.getElem?_setIfInBounds_self_of_lt (by omega), hT3.set_cap n (by omega) _ (fun d => by unfold ShC at d; omega) (fun _ _ _ d => d) (fun _ _ _ _ d => d), by rw [show (c : Int) - 1 = ((c - 1 : Nat) : Int) by omega]⟩
            case measure =>
              have e1 : (cs3.setIfInBounds n (.int .i64 ((c : Int) - 1)))[n]? = some (.int .i64 ((c : Int) - 1)) := Array.getElem?_setIfInBounds_self_of_lt (by omega)
              simp [go_sem, e1, f1, intOf]
              omega
          · have hov' : ¬(1048576 : Int) < (v n c : Nat) := by have := mt hov.1 hlc; omega
            have hce : c = cap n := by omega
            have hTb : ShSt cs3 (ShC (n + 1)) (ShB n) := hT3.learn n (by rw [f1, hce]; unfold capG; rw [if_neg (by omega)]) (fun i d => by unfold ShC at *; omega)
            clear hov hce
            go_wp2_with (go_at_call 80; refine (HV.out _).mono ?_; rintro e w' ⟨rfl, rfl⟩)
            go_loopw [5] (fun cnt wr => ∃ k : Nat, 1 ≤ k ∧ k ≤ cap n + 1 ∧ cnt = .int .i64 k ∧ ∃ cs x, ShSt cs (ShC (n + 1)) (ShBk n k) ∧ wr = (w.alloc (.cells cs 169)).grew x) (fun cnt _ => cap n + 1 - (intOf cnt).toNat)
            case atStart => exact ⟨1, by omega, by omega, rfl, _, _, hTb.imp (fun i _ d => d) (fun i j _ _ d => ShBk.one d), rfl⟩
            case round =>
              obtain ⟨k, hk1, hk, rfl, cs4, x4, hT4, rfl⟩ := hrel
              have hsz4 := hT4.size
              have c32 := cap_le32 n (by omega)
              have c1 := hT4.cap_done n (by omega) (by unfold ShC; omega)
              rw [show capG n = (cap n : Nat) from by unfold capG; rw [if_neg (by omega)]] at c1
              by_cases hkl : k ≤ cap n
              · have hkl' : (k : Int) ≤ (cap n : Nat) := by omega
                obtain ⟨y4, c2, _⟩ := hT4.bits n k (by omega) (by omega)
                have HW := Lib.hid (fun x => work_any w.heap.size t ((w.alloc (.cells cs4 169)).grew x) (HT.out.below ht (by (repeat' (first | with_reducible (first | exact Below.refl _ _ | assumption | refine Below.alloc ?_ ?_ _ | refine below_grew ?_ ?_ _ | refine Below.setCell ?_ ?_ _ | refine Below.drew ?_ | refine below_drewN ?_ _) | omega | (simp; done) | (simp; omega))))) n k (by omega) (by omega) (by simp; omega) (fun h9 i j hi hj => by
                  have hh := cap_half ⟨n - 9, by omega⟩
                  simp only [show n - 9 + 9 = n by omega] at hh
                  have := hT4.bits_done i j (by omega) (by omega) (by
        unfold ShBk ShB
        rcases hi with rfl | rfl <;> omega)
                  simp [go_sem, this]))
                have hk33 : (k : Int) < 33 := by omega
                have hn17 : (n : Int) < 17 := by omega
                go_wp2_with fail
                first | refine wp_region_grew2 12 (by kernel_rfl) (by kernel_rfl) ?_ | refine wp_region_grew 12 (by kernel_rfl) (by kernel_rfl) ?_
                simp only [List.take_succ_cons, List.take_zero, List.drop_succ_cons, List.drop_zero]
                repeat (go_big_quiet_step (first | (go_at_call 81; exact Calls.grew_of (HW.out _))))
                refine wpQuiet_nil ?_
                rintro _ ⟨x, rfl⟩
                go_wp2
                go_roundw
                case rel => exact ⟨k + 1, by omega, by omega, by go_num, _, _, hT4.set_bits n k (by omega) (by omega) _ rfl _ (by omega) (fun _ _ d => d) fun i j hi hj d => by
                  unfold ShBk at *
                  rcases d with d | d
                  · exact .inl (.inl d)
                  · by_cases e : j = k
                    · exact .inr ⟨d.1, e⟩
                    · exact .inl (.inr ⟨d.1, by omega⟩), rfl⟩
                case measure => simp [intOf]; omega
              · have hkl' : ¬(k : Int) ≤ (cap n : Nat) := by omega
                have hn17 : (n : Int) < 17 := by omega
                go_wp2
                go_roundw
                case rel => exact ⟨n + 1, by omega, by omega, by go_num, _, _, hT4.imp (fun i _ d => d) (fun i j _ _ d => by
                  unfold ShBk ShB at *
                  by_cases e : i = n
                  · subst e; omega
                  · omega), rfl⟩
                case measure => simp [intOf]; omega
      · have hn8' : ¬(n : Int) ≤ 8 := by omega
        have hn17 : (n : Int) < 17 := by omega
        have hh := cap_half ⟨n - 9, by omega⟩
        simp only [show n - 9 + 9 = n by omega] at hh
        have g1 := hT.cap_done (n / 2) (by omega) (by unfold ShC; omega)
        have g2 := hT.cap_done (n - n / 2) (by omega) (by unfold ShC; omega)
        obtain ⟨y0, f0, _⟩ := hT.caps n (by omega)
        have hdiv : (n : Int) / 2 < 17 := by omega
        have hdiv0 : (0 : Int) ≤ (n : Int) / 2 := by omega
        have hdf : (n : Int) - (n : Int) / 2 < 17 := by omega
        have hdf0 : (0 : Int) ≤ (n : Int) - (n : Int) / 2 := by omega
        rw [show capG (n / 2) = (cap (n / 2) : Nat) from by unfold capG; rw [if_neg (by omega)]] at g1
        rw [show capG (n - n / 2) = (cap (n - n / 2) : Nat) from by unfold capG; rw [if_neg (by omega)]] at g2
        go_wp2_with fail
        first | refine wp_region_grew2 22 (by kernel_rfl) (by kernel_rfl) ?_ | refine wp_region_grew 22 (by kernel_rfl) (by kernel_rfl) ?_
        simp only [List.take_succ_cons, List.take_zero, List.drop_succ_cons, List.drop_zero]
        repeat (go_big_quiet_step (fail))
        refine wpQuiet_nil ?_
        rintro _ ⟨x, rfl⟩
        go_wp2
        have hTb : ShSt (cs2.setIfInBounds n (.int .i64 (min (cap (n / 2) : Nat) (cap (n - n / 2) : Nat)))) (ShC (n + 1)) (ShB n) := hT.set_cap n (by omega) _ (fun _ => by unfold capG; rw [if_neg (by omega), hh]; omega) (fun i hi hne d => by unfold ShC at *; omega) (fun _ _ _ _ d => d)
        go_loopw [5] (fun cnt wr => ∃ k : Nat, 1 ≤ k ∧ k ≤ cap n + 1 ∧ cnt = .int .i64 k ∧ ∃ cs x, ShSt cs (ShC (n + 1)) (ShBk n k) ∧ wr = (w.alloc (.cells cs 169)).grew x) (fun cnt _ => cap n + 1 - (intOf cnt).toNat)
        case atStart => exact ⟨1, by omega, by omega, rfl, _, _, hTb.imp (fun i _ d => d) (fun i j _ _ d => ShBk.one d), rfl⟩
        case round =>
          obtain ⟨k, hk1, hk, rfl, cs4, x4, hT4, rfl⟩ := hrel
          have hsz4 := hT4.size
          have c32 := cap_le32 n (by omega)
          have c1 := hT4.cap_done n (by omega) (by unfold ShC; omega)
          rw [show capG n = (cap n : Nat) from by unfold capG; rw [if_neg (by omega)]] at c1
          by_cases hkl : k ≤ cap n
          · have hkl' : (k : Int) ≤ (cap n : Nat) := by omega
            obtain ⟨y4, c2, _⟩ := hT4.bits n k (by omega) (by omega)
            have HW := Lib.hid (fun x => work_any w.heap.size t ((w.alloc (.cells cs4 169)).grew x) (HT.out.below ht (by (repeat' (first | with_reducible (first | exact Below.refl _ _ | assumption | refine Below.alloc ?_ ?_ _ | refine below_grew ?_ ?_ _ | refine Below.setCell ?_ ?_ _ | refine Below.drew ?_ | refine below_drewN ?_ _) | omega | (simp; done) | (simp; omega))))) n k (by omega) (by omega) (by simp; omega) (fun h9 i j hi hj => by
              have hh := cap_half ⟨n - 9, by omega⟩
              simp only [show n - 9 + 9 = n by omega] at hh
              have := hT4.bits_done i j (by omega) (by omega) (by
    unfold ShBk ShB
    rcases hi with rfl | rfl <;> omega)
              simp [go_sem, this]))
            have hk33 : (k : Int) < 33 := by omega
            have hn17 : (n : Int) < 17 := by omega
            go_wp2_with fail
            first | refine wp_region_grew2 12 (by kernel_rfl) (by kernel_rfl) ?_ | refine wp_region_grew 12 (by kernel_rfl) (by kernel_rfl) ?_
            simp only [List.take_succ_cons, List.take_zero, List.drop_succ_cons, List.drop_zero]
            repeat (go_big_quiet_step (first | (go_at_call 81; exact Calls.grew_of (HW.out _))))
            refine wpQuiet_nil ?_
            rintro _ ⟨x, rfl⟩
            go_wp2
            go_roundw
            case rel => exact ⟨k + 1, by omega, by omega, by go_num, _, _, hT4.set_bits n k (by omega) (by omega) _ rfl _ (by omega) (fun _ _ d => d) fun i j hi hj d => by
              unfold ShBk at *
              rcases d with d | d
              · exact .inl (.inl d)
              · by_cases e : j = k
                · exact .inr ⟨d.1, e⟩
                · exact .inl (.inr ⟨d.1, by omega⟩), rfl⟩
            case measure => simp [intOf]; omega
          · have hkl' : ¬(k : Int) ≤ (cap n : Nat) := by omega
            have hn17 : (n : Int) < 17 := by omega
            go_wp2
            go_roundw
            case rel => exact ⟨n + 1, by omega, by omega, by go_num, _, _, hT4.imp (fun i _ d => d) (fun i j _ _ d => by
              unfold ShBk ShB at *
              by_cases e : i = n
              · subst e; omega
              · omega), rfl⟩
            case measure => simp [intOf]; omega
    · have hlt' : ¬(n : Int) ≤ 16 := by omega
      go_wp2
      go_ret
      obtain rfl : n = 17 := by omega
      refine ⟨w.heap.size, rfl, Nat.le_refl _, ⟨cs2, ?_, hT⟩, by (repeat' (first | with_reducible (first | exact Below.refl _ _ | assumption | refine Below.alloc ?_ ?_ _ | refine below_grew ?_ ?_ _ | refine Below.setCell ?_ ?_ _ | refine Below.drew ?_ | refine below_drewN ?_ _) | omega | (simp; done) | (simp; omega)))⟩
      rw [World.grew_block _ _ _ (by simp)]
      exact heap_alloc_new w _
end Go.Proofs.YtbcdnbbpkikppaaDoor
end

section
namespace Go
open Go.RowKit Go.Vec
set_option linter.unusedSimpArgs false
/-- What a book's map may hold. -/
def GoodEntries (es : List MapEntry) : Prop := ∀ e ∈ es, ∃ n k : Int, e.key = .agg #[.int .i64 n, .int .i64 k] ∧ e.val = .int .u64 (vF n k)
/-- A map's contents, and growth. -/
structure BookBy where
  es : Array MapEntry
  clock : Nat
  good : GoodEntries es.toList
  gr : Grown.By
instance : Inhabited BookBy := ⟨⟨#[], 0, fun e h => by simp at h, default⟩⟩
/-- 'w', with other contents of the map at block m, grown. -/
def World.bkd (w : World) (m : Nat) (x : BookBy) : World := { w with heap := (w.heap.setIfInBounds m (.map x.es x.clock)) ++ x.gr.objs, drawn := x.gr.drawn }
section
variable (w : World) (m : Nat) (x y : BookBy)
theorem World.bkd_block (k : Nat) (h : k < w.heap.size) (hne : m ≠ k) : (w.bkd m x).heap[k]? = w.heap[k]? := by
  show (w.heap.setIfInBounds m _ ++ x.gr.objs)[k]? = _
  rw [Array.getElem?_append_left (by simpa using h), Array.getElem?_setIfInBounds_ne hne]
theorem World.bkd_map (h : m < w.heap.size) : (w.bkd m x).heap[m]? = some (.map x.es x.clock) := by
  show (w.heap.setIfInBounds m _ ++ x.gr.objs)[m]? = _
  rw [Array.getElem?_append_left (by simpa using h), Array.getElem?_setIfInBounds_self_of_lt h]
@[simp, go_sem] theorem World.size_bkd : (w.bkd m x).heap.size = w.heap.size + x.gr.objs.size := by
  show (w.heap.setIfInBounds m _ ++ x.gr.objs).size = _
  simp
@[go_sem] theorem World.drew_bkd : (w.bkd m x).drew = w.bkd m ⟨x.es, x.clock, x.good, ⟨x.gr.objs, x.gr.drawn + 1⟩⟩ := rfl
@[go_sem] theorem World.bkd_drew : w.drew.bkd m x = w.bkd m x := rfl
@[go_sem] theorem World.grew_bkd (z : Grown.By) : (w.bkd m x).grew z = w.bkd m ⟨x.es, x.clock, x.good, ⟨x.gr.objs ++ z.objs, z.drawn⟩⟩ := by
  unfold World.bkd World.grew
  simp [Array.append_assoc]
@[go_sem] theorem World.cell?_bkd (n i : Nat) (s : Option Nat) (hn : n < w.heap.size) (hne : m ≠ n) : (w.bkd m x).cell? ⟨n, i, s⟩ = w.cell? ⟨n, i, s⟩ := by
  unfold World.cell?
  rw [World.bkd_block w m x n hn hne]
@[go_sem] theorem World.frozen?_bkd (n i : Nat) (s : Option Nat) (hn : n < w.heap.size) (hne : m ≠ n) : (w.bkd m x).frozen? ⟨n, i, s⟩ = w.frozen? ⟨n, i, s⟩ := by
  unfold World.frozen?
  rw [World.bkd_block w m x n hn hne]
@[go_sem] theorem World.shape?_bkd (n : Nat) (hn : n < w.heap.size) (hne : m ≠ n) : (w.bkd m x).shape? n = w.shape? n := by
  unfold World.shape?
  rw [World.bkd_block w m x n hn hne]
@[go_sem] theorem World.heap_bkd (n : Nat) (hn : n < w.heap.size) (hne : m ≠ n) : (w.bkd m x).heap[n]? = w.heap[n]? := World.bkd_block w m x n hn hne
@[go_sem] theorem World.setCell_bkd (n i : Nat) (s : Option Nat) (v : Value) (hn : n < w.heap.size) (hne : m ≠ n) : (w.bkd m x).setCell ⟨n, i, s⟩ v = (w.setCell ⟨n, i, s⟩ v).bkd m x := by
  unfold World.setCell World.bkd
  congr 1
  apply Array.ext_getElem?
  intro k
  simp only [Array.getElem?_modify, Array.getElem?_append, Array.size_modify, Array.size_setIfInBounds, Array.getElem?_setIfInBounds]
  by_cases hk : n = k
  · subst hk
    simp [hn, hne]
  · simp [hk]
@[go_sem] theorem World.bkd_bkd (h : m < w.heap.size) : (w.bkd m x).bkd m y = w.bkd m ⟨y.es, y.clock, y.good, ⟨x.gr.objs ++ y.gr.objs, y.gr.drawn⟩⟩ := by
  unfold World.bkd
  simp only
  congr 1
  apply Array.ext_getElem?
  intro k
  simp only [Array.getElem?_append, Array.size_append, Array.size_setIfInBounds, Array.getElem?_setIfInBounds]
  grind
end
@[go_sem] theorem World.heap_alloc_past (w : World) (o : Obj) (k : Nat) (h : k < w.heap.size) : (w.alloc o).heap[k]? = w.heap[k]? := Below.heap_alloc w o k h
/-- Of what was there nothing has turned but the map at block m, which is a good one. -/
structure BkInv (m : Nat) (w w' : World) : Prop where
  os : w'.os = w.os
  tape : w'.tape = w.tape
  output : w'.output = w.output
  size : w.heap.size ≤ w'.heap.size
  lt : m < w.heap.size
  map : ∃ es clk, w'.heap[m]? = some (.map es clk) ∧ GoodEntries es.toList
  block : ∀ k, k < w.heap.size → m ≠ k → w'.heap[k]? = w.heap[k]?
def Bk (m : Nat) (w w' : World) : Prop := ∃ x : BookBy, w' = w.bkd m x
theorem bkInv_as {m : Nat} {w w' : World} (h : BkInv m w w') : Bk m w w' := by
  obtain ⟨es, clk, hm, hg⟩ := h.map
  refine ⟨⟨es, clk, hg, ⟨w'.heap.extract w.heap.size w'.heap.size, w'.drawn⟩⟩, ?_⟩
  have hs := h.size
  have hlt := h.lt
  have hb := h.block
  have hh : w'.heap = w.heap.setIfInBounds m (.map es clk) ++ w'.heap.extract w.heap.size w'.heap.size := by
    apply Array.ext_getElem?
    intro k
    rw [Array.getElem?_append, Array.size_setIfInBounds]
    by_cases hk : k < w.heap.size
    · rw [if_pos hk]
      by_cases hmk : m = k
      · subst hmk
        rw [hm, Array.getElem?_setIfInBounds_self_of_lt hk]
      · rw [Array.getElem?_setIfInBounds_ne hmk, hb k hk hmk]
    · rw [if_neg hk, Array.getElem?_extract]
      by_cases h2 : k < w'.heap.size
      · rw [if_pos (by omega)]
        congr 1; omega
      · rw [if_neg (by omega)]
        simp; omega
  obtain ⟨hp, tp, dr, os, out⟩ := w'
  obtain ⟨a1, a2, a3, _, _, _, _⟩ := h
  simp only at *
  subst a1 a2 a3
  unfold World.bkd
  simp only
  congr 1
theorem BkInv.of_bk {m : Nat} {w w' : World} (hlt : m < w.heap.size) (h : Bk m w w') : BkInv m w w' := by
  obtain ⟨x, rfl⟩ := h
  exact ⟨rfl, rfl, rfl, by simp, hlt, ⟨x.es, x.clock, World.bkd_map w m x hlt, x.good⟩, fun k hk hne => World.bkd_block w m x k hk hne⟩
theorem BkInv.below {m : Nat} {w a b : World} (h : BkInv m w a) (hb : Below w.heap.size a b) : BkInv m w b := by
  obtain ⟨es, clk, h1, h2⟩ := h.map
  exact ⟨hb.os.trans h.os, hb.tape.trans h.tape, hb.output.trans h.output, Nat.le_trans h.size hb.size, h.lt, ⟨es, clk, (hb.block m h.lt).trans h1, h2⟩, fun k hk hne => (hb.block k hk).trans (h.block k hk hne)⟩
theorem BkInv.alloc {m : Nat} {w a : World} (h : BkInv m w a) (o : Obj) : BkInv m w (a.alloc o) := h.below ((Below.refl _ _).alloc h.size o)
theorem BkInv.grew {m : Nat} {w a : World} (h : BkInv m w a) (x : Grown.By) : BkInv m w (a.grew x) := h.below (below_grew (Below.refl _ _) h.size x)
theorem BkInv.drew {m : Nat} {w a : World} (h : BkInv m w a) : BkInv m w a.drew := ⟨h.os, h.tape, h.output, h.size, h.lt, h.map, h.block⟩
theorem BkInv.drewN {m : Nat} {w a : World} (h : BkInv m w a) (n : Nat) : BkInv m w (a.drewN n) := ⟨h.os, h.tape, h.output, h.size, h.lt, h.map, h.block⟩
theorem BkInv.setCell {m : Nat} {w a : World} (h : BkInv m w a) {p : Addr} (hp : w.heap.size ≤ p.block) (u : Value) : BkInv m w (a.setCell p u) := h.below ((Below.refl _ _).setCell hp u)
theorem BkInv.bkd {m : Nat} {w a : World} (h : BkInv m w a) (x : BookBy) : BkInv m w (a.bkd m x) := by
  have hlt : m < a.heap.size := Nat.lt_of_lt_of_le h.lt h.size
  refine ⟨h.os, h.tape, h.output, ?_, h.lt, ⟨x.es, x.clock, World.bkd_map a m x hlt, x.good⟩, fun k hk hne => (World.bkd_block a m x k (Nat.lt_of_lt_of_le hk h.size) hne).trans (h.block k hk hne)⟩
  have := h.size
  simp; omega
theorem BkInv.refl {m : Nat} {w : World} {es : Array MapEntry} {clk : Nat} (h : w.heap[m]? = some (.map es clk)) (hg : GoodEntries es.toList) : BkInv m w w :=
  ⟨rfl, rfl, rfl, Nat.le_refl _, (Array.getElem?_eq_some_iff.1 h).1, ⟨es, clk, h, hg⟩, fun _ _ _ => rfl⟩
/-- A book lies at block b, its map at block m. -/
structure BookOK (T : TypeId) (b m : Nat) (w : World) : Prop where
  book : w.heap[b]? = some (.cells #[.map (some m)] T (0, 0))
  ne : m ≠ b
  map : ∃ es clk, w.heap[m]? = some (.map es clk) ∧ GoodEntries es.toList
theorem BookOK.lt_b {T : TypeId} {b m : Nat} {w : World} (h : BookOK T b m w) : b < w.heap.size := (Array.getElem?_eq_some_iff.1 h.book).1
theorem BookOK.lt_m {T : TypeId} {b m : Nat} {w : World} (h : BookOK T b m w) : m < w.heap.size := by
  obtain ⟨es, clk, h1, _⟩ := h.map
  exact (Array.getElem?_eq_some_iff.1 h1).1
theorem BookOK.refl {T : TypeId} {b m : Nat} {w : World} (h : BookOK T b m w) : BkInv m w w := by
  obtain ⟨es, clk, h1, h2⟩ := h.map
  exact BkInv.refl h1 h2
theorem BookOK.inv {T : TypeId} {b m : Nat} {w w' : World} (h : BookOK T b m w) (hi : BkInv m w w') : BookOK T b m w' :=
  ⟨(hi.block b h.lt_b h.ne).trans h.book, h.ne, hi.map⟩
theorem BookOK.cell {T : TypeId} {b m : Nat} {w : World} (h : BookOK T b m w) : w.cell? ⟨b, 0, none⟩ = some (.map (some m)) := by simp [World.cell?, h.book]
section
variable {P : Program} {tm tk te : TypeId}
theorem findAsking_book (hl : layout P 2 tk = some [.int .i64, .int .i64]) (ha : isAggB P tk = true) (n k : Int) (w : World) : ∀ (es : List MapEntry) (i : Nat), GoodEntries es →
    (∀ x, x ∈ es → x.key ≠ .agg #[.int .i64 n, .int .i64 k]) ∧ (Instr.findAsking tk (.agg #[.int .i64 n, .int .i64 k]) es i).run P w = .ok none w ∨
    ∃ j e, es[j]? = some e ∧ e.key = .agg #[.int .i64 n, .int .i64 k] ∧ e.val = .int .u64 (vF n k) ∧ (Instr.findAsking tk (.agg #[.int .i64 n, .int .i64 k]) es i).run P w = .ok (some (i + j, .int .u64 (vF n k))) w
  | [], i, _ => .inl ⟨fun x hx => by simp at hx, by simp [Instr.findAsking]⟩
  | e :: es, i, hg => by
    obtain ⟨n', k', hk, hv⟩ := hg e (by simp)
    have he : (Op.equal tk (.agg #[.int .i64 n, .int .i64 k]) e.key).run P w = .ok (cellsEq [.int .i64 n, .int .i64 k] [.int .i64 n', .int .i64 k']) w := by
      rw [hk]
      exact eq_flat tk 2 _ hl (by decide) ha [.int .i64 n, .int .i64 k] [.int .i64 n', .int .i64 k'] rfl rfl w
    by_cases hc : n = n' ∧ k = k'
    · obtain ⟨rfl, rfl⟩ := hc
      refine .inr ⟨0, e, rfl, hk, hv, ?_⟩
      simp only [Instr.findAsking, Sem.run_bind, he, Result.andThen_ok]
      simp [cellsEq, cellEq, hv]
    · have hf : cellsEq [.int .i64 n, .int .i64 k] [.int .i64 n', .int .i64 k'] = false := by
        simp only [cellsEq, cellEq, Bool.and_true, Bool.and_eq_false_iff, beq_eq_false_iff_ne]
        omega
      rw [hf] at he
      rcases findAsking_book hl ha n k w es (i + 1) (fun x hx => hg x (by simp [hx])) with ⟨h1, h2⟩ | ⟨j, x, h1, h2, h3, h4⟩
      · refine .inl ⟨fun x hx => ?_, ?_⟩
        · rcases List.mem_cons.1 hx with rfl | hx
          · rw [hk]
            intro hh
            simp at hh
            omega
          · exact h1 x hx
        · simp only [Instr.findAsking, Sem.run_bind, he, Result.andThen_ok]
          simpa using h2
      · refine .inr ⟨j + 1, x, by simpa using h1, h2, h3, ?_⟩
        simp only [Instr.findAsking, Sem.run_bind, he, Result.andThen_ok]
        rw [show i + (j + 1) = i + 1 + j by omega]
        simpa using h4
theorem findKey_book (hs : ∃ fs, P.underlying tk = some (.struct fs)) (hl : layout P 2 tk = some [.int .i64, .int .i64]) (ha : isAggB P tk = true) (n k : Int) (w : World) (es : List MapEntry) (hg : GoodEntries es) :
    (∀ x, x ∈ es → x.key ≠ .agg #[.int .i64 n, .int .i64 k]) ∧ (Instr.findKey tk (.agg #[.int .i64 n, .int .i64 k]) es).run P w = .ok none w ∨
    ∃ j e, es[j]? = some e ∧ e.key = .agg #[.int .i64 n, .int .i64 k] ∧ e.val = .int .u64 (vF n k) ∧ (Instr.findKey tk (.agg #[.int .i64 n, .int .i64 k]) es).run P w = .ok (some (j, .int .u64 (vF n k))) w := by
  obtain ⟨fs, hs⟩ := hs
  unfold Instr.findKey
  simp only [Sem.run_bind, run_underlying hs, Result.andThen_ok]
  cases es with
  | nil => exact .inl ⟨fun x hx => by simp at hx, by simp [Instr.findNow]⟩
  | cons e es =>
    have : Instr.findNow (.struct fs) (.agg #[.int .i64 n, .int .i64 k]) (e :: es) 0 = none := by simp [Instr.findNow, Instr.sameNow]
    rw [this]
    have := findAsking_book hl ha n k w (e :: es) 0 hg
    simpa using this
/-- The same for every world that has this map: it is there, or it isn't. -/
theorem run_lookup_all (hm : P.underlying tm = some (.map tk te)) (hs : ∃ fs, P.underlying tk = some (.struct fs)) (hl : layout P 2 tk = some [.int .i64, .int .i64]) (ha : isAggB P tk = true)
    (hz : ∀ w, (zeroValue te).run P w = .ok (.int .u64 0) w) (hck : ∀ e n k w, (Instr.checkKey e 10000 tk (.agg #[.int .i64 n, .int .i64 k])).run P w = .ok () w)
    (n k : Int) (m : Nat) (es : Array MapEntry) (clk : Nat) (hg : GoodEntries es.toList) :
    (∀ w : World, w.heap[m]? = some (.map es clk) → (Instr.lookup tm (.map (some m)) (.agg #[.int .i64 n, .int .i64 k]) true).run P w = .ok (.tuple #[.int .u64 (vF n k), .bool true]) w) ∨
    (∀ w : World, w.heap[m]? = some (.map es clk) → (Instr.lookup tm (.map (some m)) (.agg #[.int .i64 n, .int .i64 k]) true).run P w = .ok (.tuple #[.int .u64 0, .bool false]) w) := by
  by_cases hex : ∃ x, x ∈ es.toList ∧ x.key = .agg #[.int .i64 n, .int .i64 k]
  · left
    intro w hh
    unfold Instr.lookup
    simp only [Sem.run_bind, run_underlying hm, Result.andThen_ok, getObj, Sem.run, hh, Sem.run_pure, hck]
    rcases findKey_book hs hl ha n k w es.toList hg with ⟨hno, _⟩ | ⟨j, e, _, _, _, h⟩
    · obtain ⟨x, hx, hk⟩ := hex
      exact absurd hk (hno x hx)
    · simp [h]
  · right
    intro w hh
    unfold Instr.lookup
    simp only [Sem.run_bind, run_underlying hm, Result.andThen_ok, getObj, Sem.run, hh, Sem.run_pure, hck]
    rcases findKey_book hs hl ha n k w es.toList hg with ⟨_, h⟩ | ⟨j, e, hj, hk, _, _⟩
    · simp [h, hz]
    · exact absurd ⟨e, List.mem_of_getElem? hj, hk⟩ hex
theorem run_update_book (hm : P.underlying tm = some (.map tk te)) (hs : ∃ fs, P.underlying tk = some (.struct fs)) (hl : layout P 2 tk = some [.int .i64, .int .i64]) (ha : isAggB P tk = true)
    (hck : ∀ e n k w, (Instr.checkKey e 10000 tk (.agg #[.int .i64 n, .int .i64 k])).run P w = .ok () w)
    (n k : Int) (m : Nat) (w : World) (es : Array MapEntry) (clk : Nat) (hh : w.heap[m]? = some (.map es clk)) (hg : GoodEntries es.toList) :
    ∃ es' clk', ∃ hg' : GoodEntries es'.toList, (Instr.mapUpdate tm (.map (some m)) (.agg #[.int .i64 n, .int .i64 k]) (.int .u64 (vF n k))).run P w = .ok () (w.bkd m ⟨es', clk', hg', ⟨#[], w.drawn⟩⟩) := by
  have hset : ∀ es' clk', (hg' : GoodEntries es'.toList) → (setObj m (.map es' clk')).run P w = .ok () (w.bkd m ⟨es', clk', hg', ⟨#[], w.drawn⟩⟩) := by
    intro es' clk' hg'
    simp only [setObj, Sem.run, hh]
    unfold World.bkd
    simp
  unfold Instr.mapUpdate
  simp only [Sem.run_bind, run_underlying hm, Result.andThen_ok, getObj, Sem.run, hh, hck, Sem.run_pure]
  rcases findKey_book hs hl ha n k w es.toList hg with ⟨_, h⟩ | ⟨j, e, hj, hk, hv, h⟩
  · refine ⟨es.push { key := .agg #[.int .i64 n, .int .i64 k], val := .int .u64 (vF n k), born := clk }, clk + 1, ?_, ?_⟩
    · intro x hx
      simp at hx
      rcases hx with hx | rfl
      · exact hg x (by simpa using hx)
      · exact ⟨n, k, rfl, rfl⟩
    · simp only [h, Result.andThen_ok]
      exact hset _ _ _
  · have hold : ((es[j]?).map (·.key)).getD (.agg #[.int .i64 n, .int .i64 k]) = .agg #[.int .i64 n, .int .i64 k] := by
      have : es[j]? = some e := by simpa using hj
      simp [this, hk]
    have hst : (Instr.keyThatStays (.agg #[.int .i64 n, .int .i64 k]) (.agg #[.int .i64 n, .int .i64 k])).run P w = .ok (.agg #[.int .i64 n, .int .i64 k]) w := by
      simp [Instr.keyThatStays, Instr.sameBits]
    refine ⟨es.modify j fun e => { e with key := .agg #[.int .i64 n, .int .i64 k], val := .int .u64 (vF n k) }, clk, ?_, ?_⟩
    · intro x hx
      obtain ⟨i, hi⟩ := List.getElem?_of_mem hx
      simp only [Array.toList_modify, List.getElem?_modify] at hi
      obtain ⟨y, hy, hyx⟩ := Option.map_eq_some_iff.1 hi
      split at hyx
      · subst hyx; exact ⟨n, k, rfl, rfl⟩
      · subst hyx; exact hg y (List.mem_of_getElem? hy)
    · simp only [h, Result.andThen_ok, hold, Sem.run_bind, hst]
      exact hset _ _ _
end
section
variable {P : Program}
theorem wp_region_bkd_all {id : Nat} {Q : Exit → Act → World → Prop} {a : Act} {w : World} {m : Nat} {x0 : BookBy} {l : List Oper} (hm : P.follows .mixedOrders = true) (hB : Region.lexB .any l.toArray = true)
    (h : wpQuiet P l.toArray (fun w' => ∃ x, w' = w.bkd m x) (fun a' => ∀ w', (∃ x, w' = w.bkd m x) → Q .normal a' w') l a) : (Code.region id l.toArray true).wp P Q a (w.bkd m x0) :=
  wp_region_quiet (C := fun w' => ∃ x, w' = w.bkd m x) hm hB ⟨⟨x0.es, x0.clock, x0.good, ⟨x0.gr.objs, x0.gr.drawn + 1⟩⟩, rfl⟩ (by simpa using h)
/-- A call that leaves a book's world, met in such a world. -/
theorem Calls.bkd_of {f : FuncId} {args : Array Value} {w : World} {m : Nat} {x : BookBy} {v : Value} (hm : m < w.heap.size)
    (h : Calls P f args (w.bkd m x) fun e w' => e = .returned v ∧ Bk m (w.bkd m x) w') : Calls P f args (w.bkd m x) fun e w'' => e = .returned v ∧ ∃ y, w'' = w.bkd m y :=
  h.mono fun _ _ ⟨he, y, hy⟩ => ⟨he, ⟨y.es, y.clock, y.good, ⟨x.gr.objs ++ y.gr.objs, y.gr.drawn⟩⟩, hy.trans (World.bkd_bkd w m x y hm)⟩
theorem Calls.bkd_of_below {f : FuncId} {args : Array Value} {w : World} {m : Nat} {x : BookBy} {v : Value}
    (h : Calls P f args (w.bkd m x) fun e w' => e = .returned v ∧ Below (w.bkd m x).heap.size (w.bkd m x) w') : Calls P f args (w.bkd m x) fun e w'' => e = .returned v ∧ ∃ y, w'' = w.bkd m y :=
  h.mono fun _ _ ⟨he, hb⟩ => ⟨he, by
    obtain ⟨z, hz⟩ := below_as_grew hb
    exact ⟨_, hz.trans (World.grew_bkd w m x z)⟩⟩
end
end Go
end

section
namespace Go.Proofs.YtbcdnbbpkikppaaDoor
open Go.RowKit Go.BigFrame Go.Vec
set_option linter.unusedSimpArgs false
abbrev Book (b m : Nat) (w : World) : Prop := BookOK 154 b m w
theorem pair_check : ∀ e n k w, (Instr.checkKey e 10000 219 (.agg #[.int .i64 n, .int .i64 k])).run Tryd.prog w = .ok () w := fun _ _ _ _ => by kernel_rfl
theorem pair_layout : layout Tryd.prog 2 219 = some [.int .i64, .int .i64] := by kernel_rfl
theorem pair_agg : isAggB Tryd.prog 219 = true := by kernel_rfl
theorem u64_zero : ∀ w, (zeroValue 64).run Tryd.prog w = .ok (.int .u64 0) w := fun _ => by kernel_rfl
theorem right_any (n k : Int) (w : World) : Calls Tryd.prog 150 #[.agg #[.int .i64 n, .int .i64 k]] w fun e w' => e = .returned (.bool (decide (0 ≤ n ∧ n ≤ 16 ∧ 0 ≤ k ∧ k ≤ 32))) ∧ Below w.heap.size w w' := by
  by_cases h1 : 0 ≤ n
  · by_cases h2 : n ≤ 16
    · by_cases h3 : 0 ≤ k
      · by_cases h4 : k ≤ 32
        · skip
          go_enter Tryd.func150, Tryd.ntmps150
          go_wp2
          go_ret
          exact ⟨ret_bool (by first | rfl | (simp; done) | (simp; omega)), by (repeat' (first | with_reducible (first | exact Below.refl _ _ | assumption | refine Below.alloc ?_ ?_ _ | refine below_grew ?_ ?_ _ | refine Below.setCell ?_ ?_ _ | refine Below.drew ?_ | refine below_drewN ?_ _) | omega | (simp; done) | (simp; omega)))⟩
        · skip
          go_enter Tryd.func150, Tryd.ntmps150
          go_wp2
          go_ret
          exact ⟨ret_bool (by first | rfl | (simp; done) | (simp; omega)), by (repeat' (first | with_reducible (first | exact Below.refl _ _ | assumption | refine Below.alloc ?_ ?_ _ | refine below_grew ?_ ?_ _ | refine Below.setCell ?_ ?_ _ | refine Below.drew ?_ | refine below_drewN ?_ _) | omega | (simp; done) | (simp; omega)))⟩
      · skip
        go_enter Tryd.func150, Tryd.ntmps150
        go_wp2
        go_ret
        exact ⟨ret_bool (by first | rfl | (simp; done) | (simp; omega)), by (repeat' (first | with_reducible (first | exact Below.refl _ _ | assumption | refine Below.alloc ?_ ?_ _ | refine below_grew ?_ ?_ _ | refine Below.setCell ?_ ?_ _ | refine Below.drew ?_ | refine below_drewN ?_ _) | omega | (simp; done) | (simp; omega)))⟩
    · skip
      go_enter Tryd.func150, Tryd.ntmps150
      go_wp2
      go_ret
      exact ⟨ret_bool (by first | rfl | (simp; done) | (simp; omega)), by (repeat' (first | with_reducible (first | exact Below.refl _ _ | assumption | refine Below.alloc ?_ ?_ _ | refine below_grew ?_ ?_ _ | refine Below.setCell ?_ ?_ _ | refine Below.drew ?_ | refine below_drewN ?_ _) | omega | (simp; done) | (simp; omega)))⟩
  · skip
    go_enter Tryd.func150, Tryd.ntmps150
    go_wp2
    go_ret
    exact ⟨ret_bool (by first | rfl | (simp; done) | (simp; omega)), by (repeat' (first | with_reducible (first | exact Below.refl _ _ | assumption | refine Below.alloc ?_ ?_ _ | refine below_grew ?_ ?_ _ | refine Below.setCell ?_ ?_ _ | refine Below.drew ?_ | refine below_drewN ?_ _) | omega | (simp; done) | (simp; omega)))⟩
theorem v_base (n k : Int) (h : ¬(0 ≤ n ∧ n ≤ 16 ∧ 0 ≤ k ∧ k ≤ 32) ∨ (0 ≤ n ∧ n ≤ 16 ∧ k = 0) ∨ (n = 0 ∧ 1 ≤ k ∧ k ≤ 32)) (p : Value) (w : World) :
    Calls Tryd.prog 149 #[p, .int .i64 n, .int .i64 k] w fun e w' => e = .returned (.int .u64 (vF n k)) ∧ Below w.heap.size w w' := by
  have hr := Lib.hid (fun w => right_any n k w)
  rcases h with h | ⟨h1, h2, rfl⟩ | ⟨rfl, h1, h2⟩
  · have E := Lib.hid (vF_out n k h)
    rw [decide_eq_false h] at hr
    clear h
    go_enter Tryd.func149, Tryd.ntmps149
    go_wp2_with (go_at_call 150; refine (hr.out _).mono ?_; rintro e w' ⟨rfl, hb1⟩; obtain ⟨x1, rfl⟩ := below_as_grew hb1; clear hb1)
    go_ret
    exact ⟨ret_int (by rw [E.out]), by (repeat' (first | with_reducible (first | exact Below.refl _ _ | assumption | refine Below.alloc ?_ ?_ _ | refine below_grew ?_ ?_ _ | refine Below.setCell ?_ ?_ _ | refine Below.drew ?_ | refine below_drewN ?_ _) | omega | (simp; done) | (simp; omega)))⟩
  · have E := Lib.hid (vF_zero n ⟨h1, h2⟩)
    rw [decide_eq_true (by omega)] at hr
    go_enter Tryd.func149, Tryd.ntmps149
    go_wp2_with (go_at_call 150; refine (hr.out _).mono ?_; rintro e w' ⟨rfl, hb1⟩; obtain ⟨x1, rfl⟩ := below_as_grew hb1; clear hb1)
    go_ret
    exact ⟨ret_int (by rw [E.out]), by (repeat' (first | with_reducible (first | exact Below.refl _ _ | assumption | refine Below.alloc ?_ ?_ _ | refine below_grew ?_ ?_ _ | refine Below.setCell ?_ ?_ _ | refine Below.drew ?_ | refine below_drewN ?_ _) | omega | (simp; done) | (simp; omega)))⟩
  · have E := Lib.hid (vF_none k ⟨h1, h2⟩)
    rw [decide_eq_true (by omega)] at hr
    have hk : (k == 0) = false := by rw [beq_eq_false_iff_ne]; omega
    go_enter Tryd.func149, Tryd.ntmps149
    go_wp2_with (go_at_call 150; refine (hr.out _).mono ?_; rintro e w' ⟨rfl, hb1⟩; obtain ⟨x1, rfl⟩ := below_as_grew hb1; clear hb1)
    go_ret
    exact ⟨ret_int (by rw [E.out]), by (repeat' (first | with_reducible (first | exact Below.refl _ _ | assumption | refine Below.alloc ?_ ?_ _ | refine below_grew ?_ ?_ _ | refine Below.setCell ?_ ?_ _ | refine Below.drew ?_ | refine below_drewN ?_ _) | omega | (simp; done) | (simp; omega)))⟩
def VSaid (b m : Nat) (n k : Int) : Prop := ∀ w, Book b m w → Calls Tryd.prog 149 #[.pointer (some ⟨b, 0, none⟩), .int .i64 n, .int .i64 k] w fun e w' => e = .returned (.int .u64 (vF n k)) ∧ Bk m w w'
theorem v_step (b m : Nat) (n k : Int) (hn : 1 ≤ n ∧ n ≤ 16) (hk : 1 ≤ k ∧ k ≤ 32) (i1 : VSaid b m (n - 1) k) (i2 : VSaid b m n (k - 1)) (i3 : VSaid b m (n - 1) (k - 1)) : VSaid b m n k := by
  intro w hB
  have hr := Lib.hid (fun w => right_any n k w)
  rw [decide_eq_true (by omega)] at hr
  have hk0 : (k == 0) = false := by rw [beq_eq_false_iff_ne]; omega
  have hn0 : (n == 0) = false := by rw [beq_eq_false_iff_ne]; omega
  have esum := Lib.hid (show IntKind.u64.wrap (IntKind.u64.wrap (vF (n - 1) k + vF n (k - 1)) + vF (n - 1) (k - 1)) = vF n k from by
    rw [vF_rec n k hn hk]
    have b1 := vF_bd (n - 1) k
    have b2 := vF_bd n (k - 1)
    have b3 := vF_bd (n - 1) (k - 1)
    rw [IntWalk.u64_in (vF (n - 1) k + vF n (k - 1)) (by omega), IntWalk.u64_in _ (by omega)])
  obtain ⟨es, clk, hh, hg⟩ := hB.map
  have hbm := hB.ne
  have hbl := hB.lt_b
  have hml := hB.lt_m
  have hcell := hB.cell
  have hlk := run_lookup_all (P := Tryd.prog) Tryd.underlying152 ⟨_, Tryd.underlying219⟩ pair_layout pair_agg u64_zero pair_check n k m es clk hg
  obtain ⟨n1, n2⟩ := hn
  obtain ⟨k1, k2⟩ := hk
  have I1 := Lib.hid i1
  have I2 := Lib.hid i2
  have I3 := Lib.hid i3
  have hw : ∀ (o : Obj) (x : Grown.By), ((w.alloc o).grew x).heap[m]? = some (.map es clk) := fun o x => by
    rw [World.grew_block _ _ _ (by simp; omega), World.heap_alloc_past _ _ _ hml, hh]
  rcases hlk with hl | hl
  · have hl' := fun o x => hl _ (hw o x)
    clear i1 i2 i3 hl hw
    go_enter Tryd.func149, Tryd.ntmps149
    go_wp2_with (go_at_call 150; refine (hr.out _).mono ?_; rintro e w' ⟨rfl, hb1⟩; obtain ⟨x1, rfl⟩ := below_as_grew hb1; clear hb1)
    go_quiet (fail)
    go_wp2
    go_ret
    exact ⟨rfl, bkInv_as (by (repeat' (first | with_reducible (first | assumption | exact BookOK.refl ‹_› | refine BkInv.alloc ?_ _ | refine BkInv.grew ?_ _ | refine BkInv.bkd ?_ _ | refine BkInv.setCell ?_ ?_ _ | refine BkInv.drew ?_ | refine BkInv.drewN ?_ _) | omega | (simp; done) | (simp; omega))))⟩
  · have hl' := fun o x => hl _ (hw o x)
    clear i1 i2 i3 hl hw
    go_enter Tryd.func149, Tryd.ntmps149
    go_wp2_with (go_at_call 150; refine (hr.out _).mono ?_; rintro e w' ⟨rfl, hb1⟩; obtain ⟨x1, rfl⟩ := below_as_grew hb1; clear hb1)
    go_quiet (fail)
    go_wp2_with fail
    refine (I1.out _ (hB.inv (by (repeat' (first | with_reducible (first | assumption | exact BookOK.refl ‹_› | refine BkInv.alloc ?_ _ | refine BkInv.grew ?_ _ | refine BkInv.bkd ?_ _ | refine BkInv.setCell ?_ ?_ _ | refine BkInv.drew ?_ | refine BkInv.drewN ?_ _) | omega | (simp; done) | (simp; omega)))))).mono ?_
    rintro e w' ⟨rfl, y1, rfl⟩
    go_wp2_with fail
    refine (I2.out _ (hB.inv (by (repeat' (first | with_reducible (first | assumption | exact BookOK.refl ‹_› | refine BkInv.alloc ?_ _ | refine BkInv.grew ?_ _ | refine BkInv.bkd ?_ _ | refine BkInv.setCell ?_ ?_ _ | refine BkInv.drew ?_ | refine BkInv.drewN ?_ _) | omega | (simp; done) | (simp; omega)))))).mono ?_
    rintro e w' ⟨rfl, y2, rfl⟩
    go_wp2_with fail
    refine (I3.out _ (hB.inv (by (repeat' (first | with_reducible (first | assumption | exact BookOK.refl ‹_› | refine BkInv.alloc ?_ _ | refine BkInv.grew ?_ _ | refine BkInv.bkd ?_ _ | refine BkInv.setCell ?_ ?_ _ | refine BkInv.drew ?_ | refine BkInv.drewN ?_ _) | omega | (simp; done) | (simp; omega)))))).mono ?_
    rintro e w' ⟨rfl, y3, rfl⟩
    go_wp2_with fail
    refine cut_world (fun W => BkInv m w W ∧ W.cell? ⟨w.heap.size, 0, none⟩ = some (.int .i64 n) ∧ W.cell? ⟨w.heap.size, 1, none⟩ = some (.int .i64 k)) ⟨by (repeat' (first | with_reducible (first | assumption | exact BookOK.refl ‹_› | refine BkInv.alloc ?_ _ | refine BkInv.grew ?_ _ | refine BkInv.bkd ?_ _ | refine BkInv.setCell ?_ ?_ _ | refine BkInv.drew ?_ | refine BkInv.drewN ?_ _) | omega | (simp; done) | (simp; omega))), by simp [go_sem, Nat.ne_of_lt hml], by simp [go_sem, Nat.ne_of_lt hml]⟩ ?_
    rintro W ⟨hbk, c1, c2⟩
    have c0 := (hB.inv hbk).cell
    have d0 := (hB.inv hbk).lt_b
    have d1 : w.heap.size < W.heap.size := Nat.lt_of_not_le fun hh => by simp [World.cell?, Array.getElem?_eq_none hh] at c1
    obtain ⟨es2, clk2, hh2, hg2⟩ := hbk.map
    first | refine wp_region_grew2 6 (by kernel_rfl) (by kernel_rfl) ?_ | refine wp_region_grew 6 (by kernel_rfl) (by kernel_rfl) ?_
    simp only [List.take_succ_cons, List.take_zero, List.drop_succ_cons, List.drop_zero]
    repeat (go_big_quiet_step (fail))
    refine wpQuiet_nil ?_
    rintro _ ⟨x, rfl⟩
    obtain ⟨es3, clk3, hg3, hu⟩ := run_update_book (P := Tryd.prog) Tryd.underlying152 ⟨_, Tryd.underlying219⟩ pair_layout pair_agg pair_check n k m (W.grew x) es2 clk2 (by rw [World.grew_block _ _ _ (Array.getElem?_eq_some_iff.1 hh2).1, hh2]) hg2
    rw [← esum.out] at hu
    go_wp2
    go_ret
    exact ⟨ret_int esum.out, bkInv_as (by (repeat' (first | with_reducible (first | assumption | exact BookOK.refl ‹_› | refine BkInv.alloc ?_ _ | refine BkInv.grew ?_ _ | refine BkInv.bkd ?_ _ | refine BkInv.setCell ?_ ?_ _ | refine BkInv.drew ?_ | refine BkInv.drewN ?_ _) | omega | (simp; done) | (simp; omega))))⟩
theorem v_any (b m : Nat) : ∀ (d : Nat) (n k : Int), n.toNat + k.toNat ≤ d → VSaid b m n k := by
  intro d
  induction d with
  | zero =>
    intro n k hd w hB
    by_cases h : 0 ≤ n ∧ n ≤ 16 ∧ 0 ≤ k ∧ k ≤ 32
    · refine (v_base n k (.inr (.inl ⟨h.1, h.2.1, by omega⟩)) _ w).mono fun e w' ⟨he, hb⟩ => ⟨he, bkInv_as (hB.refl.below hb)⟩
    · refine (v_base n k (.inl h) _ w).mono fun e w' ⟨he, hb⟩ => ⟨he, bkInv_as (hB.refl.below hb)⟩
  | succ d ih =>
    intro n k hd w hB
    by_cases h : 0 ≤ n ∧ n ≤ 16 ∧ 0 ≤ k ∧ k ≤ 32
    · by_cases hk : k = 0
      · refine (v_base n k (.inr (.inl ⟨h.1, h.2.1, hk⟩)) _ w).mono fun e w' ⟨he, hb⟩ => ⟨he, bkInv_as (hB.refl.below hb)⟩
      · by_cases hn : n = 0
        · refine (v_base n k (.inr (.inr ⟨hn, by omega, by omega⟩)) _ w).mono fun e w' ⟨he, hb⟩ => ⟨he, bkInv_as (hB.refl.below hb)⟩
        · exact v_step b m n k (by omega) (by omega) (ih _ _ (by omega)) (ih _ _ (by omega)) (ih _ _ (by omega)) w hB
    · refine (v_base n k (.inl h) _ w).mono fun e w' ⟨he, hb⟩ => ⟨he, bkInv_as (hB.refl.below hb)⟩
theorem bookV (b m : Nat) (n k : Int) (w : World) (hB : Book b m w) : Calls Tryd.prog 149 #[.pointer (some ⟨b, 0, none⟩), .int .i64 n, .int .i64 k] w fun e w' => e = .returned (.int .u64 (vF n k)) ∧ Bk m w w' :=
  v_any b m _ n k (Nat.le_refl _) w hB
/-- A new book. -/
theorem bookNew (w : World) : Calls Tryd.prog 50 #[] w fun e w' => ∃ b m, e = .returned (.pointer (some ⟨b, 0, none⟩)) ∧ w.heap.size ≤ b ∧ w.heap.size ≤ m ∧ Book b m w' ∧ Below w.heap.size w w' := by
  have hmm := @run_makeMap Tryd.prog
  go_enter Tryd.func50, Tryd.ntmps50
  go_wp2
  go_ret
  refine ⟨w.heap.size + 1, w.heap.size, rfl, ?_, ?_, ⟨?_, ?_, #[], 0, ?_, ?_⟩, ?_⟩
  · simp
  · exact Nat.le_refl _
  · exact heap_alloc2_new w _ _
  · simp
  · rw [World.heap_alloc_past _ _ _ (by simp)]; exact heap_alloc_new w _
  · intro e h; simp at h
  · (repeat' (first | with_reducible (first | exact Below.refl _ _ | assumption | refine Below.alloc ?_ ?_ _ | refine below_grew ?_ ?_ _ | refine Below.setCell ?_ ?_ _ | refine Below.drew ?_ | refine below_drewN ?_ _) | omega | (simp; done) | (simp; omega)))
end Go.Proofs.YtbcdnbbpkikppaaDoor
end

section
namespace Go.Proofs.YtbcdnbbpkikppaaDoor
open Go.RowKit Go.BigFrame Go.Vec Go.Cost
set_option linter.unusedSimpArgs false
theorem there_any (n : Int) (w : World) : Calls Tryd.prog 166 #[.int .i64 n] w fun e w' => e = .returned (.bool (decide (1 ≤ n ∧ n ≤ 16))) ∧ w = w' := by
  by_cases h1 : 1 ≤ n
  · by_cases h2 : n ≤ 16
    · skip
      go_enter Tryd.func166, Tryd.ntmps166
      go_wp2
      go_ret
      exact ⟨ret_bool (by first | rfl | (simp; done) | (simp; omega)), rfl⟩
    · skip
      go_enter Tryd.func166, Tryd.ntmps166
      go_wp2
      go_ret
      exact ⟨ret_bool (by first | rfl | (simp; done) | (simp; omega)), rfl⟩
  · skip
    go_enter Tryd.func166, Tryd.ntmps166
    go_wp2
    go_ret
    exact ⟨ret_bool (by first | rfl | (simp; done) | (simp; omega)), rfl⟩
section
variable {b m : Nat} {w : World}
/-- What is known behind each change of the map. -/
theorem Book.any (hB : Book b m w) (x : BookBy) : Book b m (w.bkd m x) := hB.inv (hB.refl.bkd x)
theorem bookV_any (hB : Book b m w) (n k : Int) (x : BookBy) : Calls Tryd.prog 149 #[.pointer (some ⟨b, 0, none⟩), .int .i64 n, .int .i64 k] (w.bkd m x) fun e w' => e = .returned (.int .u64 (vF n k)) ∧ ∃ y, w' = w.bkd m y :=
  (bookV b m n k _ (hB.any x)).bkd_of hB.lt_m
def BkCalls (m : Nat) (w : World) (f : FuncId) (args : Array Value) (v : Value) : Prop := ∀ x, Calls Tryd.prog f args (w.bkd m x) fun e w' => e = .returned v ∧ ∃ y, w' = w.bkd m y
theorem cap_out (p : Value) (n : Int) (hn : ¬(1 ≤ n ∧ n ≤ 16)) : BkCalls m w 163 #[p, .int .i64 n] (.int .i64 (capF n)) := by
  intro x
  have ht := Lib.hid (fun w => there_any n w)
  have E := Lib.hid (capF_out n hn)
  rw [decide_eq_false hn] at ht
  clear hn
  go_enter Tryd.func163, Tryd.ntmps163
  go_wp2_with (go_at_call 166; refine (ht.out _).mono ?_; rintro e w' ⟨rfl, rfl⟩)
  go_ret
  exact ⟨ret_int E.out.symm, _, rfl⟩
theorem cap_small (hB : Book b m w) (n : Int) (hn : 1 ≤ n ∧ n ≤ 8) : BkCalls m w 163 #[.pointer (some ⟨b, 0, none⟩), .int .i64 n] (.int .i64 (capF n)) := by
  intro x
  have ht := Lib.hid (fun w => there_any n w)
  have HV := Lib.hid (fun k x => bookV_any hB n k x)
  have E := Lib.hid (capF_in n (by omega))
  have HS := Lib.hid (fun k => cap_step n k hn)
  have c32 := cap_32 n hn
  rw [decide_eq_true (by omega)] at ht
  obtain ⟨n1, n2⟩ := hn
  generalize hc : cap n.toNat = c at *
  go_enter Tryd.func163, Tryd.ntmps163
  go_wp2_with (go_at_call 166; refine (ht.out _).mono ?_; rintro e w' ⟨rfl, rfl⟩)
  go_loopw [5] (fun cnt wr => ∃ k : Nat, k ≤ c ∧ cnt = .int .i64 k ∧ ∃ x, wr = w.bkd m x) (fun cnt _ => c + 1 - (intOf cnt).toNat)
  case atStart => exact ⟨0, by omega, rfl, _, rfl⟩
  case round =>
    obtain ⟨k, hk, rfl, y, rfl⟩ := hrel
    by_cases h32 : k < 32
    · have h32' : (k : Int) < 32 := by omega
      have HK := HS.out k h32 hk
      by_cases hlt : k < c
      · rw [decide_eq_true hlt] at HK
        have HK2 := of_decide_eq_true HK
        go_wp2_with (go_at_call 149; refine (HV.out _ _).mono ?_; rintro e w' ⟨rfl, y1, rfl⟩)
        go_roundw
        case rel => exact ⟨k + 1, by omega, by go_num, _, rfl⟩
        case measure => simp [intOf]; omega
      · rw [decide_eq_false hlt] at HK
        have HK2 := of_decide_eq_false HK
        go_wp2_with (go_at_call 149; refine (HV.out _ _).mono ?_; rintro e w' ⟨rfl, y1, rfl⟩)
        go_ret
        exact ⟨ret_int (by rw [E.out]; omega), _, rfl⟩
    · have h32' : ¬(k : Int) < 32 := by omega
      go_wp2
      go_ret
      exact ⟨ret_int (by rw [E.out]; omega), _, rfl⟩
theorem cap_wide_any (hB : Book b m w) (n : Int) (hn : 9 ≤ n ∧ n ≤ 16) : BkCalls m w 163 #[.pointer (some ⟨b, 0, none⟩), .int .i64 n] (.int .i64 (capF n)) := by
  intro x
  have ht := Lib.hid (fun w => there_any n w)
  have h1 := Lib.hid (cap_small hB)
  have E := Lib.hid (cap_wide n hn)
  have b1 := capF_bd (n / 2)
  have b2 := capF_bd (n - n / 2)
  rw [decide_eq_true (by omega)] at ht
  obtain ⟨n1, n2⟩ := hn
  go_enter Tryd.func163, Tryd.ntmps163
  go_wp2_with (first | (go_at_call 166; refine (ht.out _).mono ?_; rintro e w' ⟨rfl, rfl⟩) | (go_at_call 163; refine (h1.out _ ?_ _).mono ?_; omega; rintro e w' ⟨rfl, y, rfl⟩))
  go_ret
  exact ⟨ret_int (by rw [E.out]), _, rfl⟩
theorem cap_any (hB : Book b m w) (n : Int) : BkCalls m w 163 #[.pointer (some ⟨b, 0, none⟩), .int .i64 n] (.int .i64 (capF n)) := by
  by_cases h : 1 ≤ n ∧ n ≤ 16
  · by_cases h2 : n ≤ 8
    · exact cap_small hB n (by omega)
    · exact cap_wide_any hB n (by omega)
  · exact cap_out _ n h
theorem bitsOf_zero (p : Value) (n : Int) : BkCalls m w 167 #[p, .int .i64 n, .int .i64 0] (.int .i64 ((pays n.toNat 0 : Nat) : Int)) := by
  intro x
  go_enter Tryd.func167, Tryd.ntmps167
  go_wp2
  go_ret
  exact ⟨ret_int rfl, _, rfl⟩
theorem bitsOf_small (hB : Book b m w) (n k : Int) (hn : 1 ≤ n ∧ n ≤ 8) (hk : 1 ≤ k ∧ k ≤ 32) : BkCalls m w 167 #[.pointer (some ⟨b, 0, none⟩), .int .i64 n, .int .i64 k] (.int .i64 ((pays n.toNat k.toNat : Nat) : Int)) := by
  intro x
  have HV := Lib.hid (fun x => bookV_any hB n k x)
  have E := Lib.hid (pays_small n k hn hk)
  have hl := Lib.hid (fun w => len64_run (IntKind.u64.wrap (vF n k - 1)) w (by rw [IntKind.wrap_u64]; omega) (by rw [IntKind.wrap_u64]; omega))
  have hk0 : (k == 0) = false := by rw [beq_eq_false_iff_ne]; omega
  have hbd : (Lib.bitLen (IntKind.u64.wrap (vF n k - 1)).toNat : Int) ≤ 200 := by
    have := pays_le ⟨n.toNat, by omega⟩ ⟨k.toNat, by omega⟩
    have e := E.out
    simp only at this
    omega
  obtain ⟨n1, n2⟩ := hn
  obtain ⟨k1, k2⟩ := hk
  go_enter Tryd.func167, Tryd.ntmps167
  go_wp2_with (first | (go_at_call 149; refine (HV.out _).mono ?_; rintro e w' ⟨rfl, y, rfl⟩) | (go_at_call 101; refine (hl.out _).mono ?_; rintro e w' ⟨rfl, rfl⟩))
  go_ret
  exact ⟨ret_int (by rw [E.out]; omega), _, rfl⟩
theorem bitsOf_low (hB : Book b m w) (n k : Int) (hn : 1 ≤ n ∧ n ≤ 8) (hk : 0 ≤ k ∧ k ≤ 32) : BkCalls m w 167 #[.pointer (some ⟨b, 0, none⟩), .int .i64 n, .int .i64 k] (.int .i64 ((pays n.toNat k.toNat : Nat) : Int)) := by
  by_cases h : k = 0
  · subst h; exact bitsOf_zero _ n
  · exact bitsOf_small hB n k hn (by omega)
theorem bitsOf_wide (hB : Book b m w) (n k : Int) (hn : 9 ≤ n ∧ n ≤ 16) (hk : 1 ≤ k ∧ k ≤ 32) : BkCalls m w 167 #[.pointer (some ⟨b, 0, none⟩), .int .i64 n, .int .i64 k] (.int .i64 ((pays n.toNat k.toNat : Nat) : Int)) := by
  intro x
  have h1 := Lib.hid (bitsOf_low hB)
  have hl := Lib.hid (fun w => len_run k w (by omega) (by omega))
  have hk0 : (k == 0) = false := by rw [beq_eq_false_iff_ne]; omega
  have hM := Lib.hid (fun a ha => mx_step n k a hn ha (by omega))
  have hMb := Lib.hid (mx_le n.toNat k.toNat (by omega) (by omega))
  have hB1 := Lib.hid (fun (a : Nat) (ha : a ≤ 32) => pays_le ⟨(n / 2).toNat, by omega⟩ ⟨a, by omega⟩)
  have hB2 := Lib.hid (fun (a : Nat) (ha : a ≤ 32) => pays_le ⟨(n - n / 2).toNat, by omega⟩ ⟨a, by omega⟩)
  have E := Lib.hid (pays_wide n k hn hk)
  have hlb : (Lib.bitLen k.toNat : Int) ≤ 200 := by
    have := pays_le ⟨n.toNat, by omega⟩ ⟨k.toNat, by omega⟩
    have e := E.out
    simp only at this
    omega
  have hM0 : mx n.toNat k.toNat 0 = 0 := rfl
  generalize mx n.toNat k.toNat = M at *
  obtain ⟨n1, n2⟩ := hn
  obtain ⟨k1, k2⟩ := hk
  go_enter Tryd.func167, Tryd.ntmps167
  go_wp2
  go_loopw [7, 24] (fun most cnt wr => ∃ a : Nat, a ≤ k.toNat + 1 ∧ cnt = .int .i64 a ∧ most = .int .i64 (M a : Nat) ∧ ∃ x, wr = w.bkd m x) (fun _ cnt _ => k.toNat + 1 - (intOf cnt).toNat)
  case atStart => exact ⟨0, by omega, rfl, by rw [hM0]; rfl, _, rfl⟩
  case round =>
    obtain ⟨a, ha, rfl, rfl, y, rfl⟩ := hrel
    by_cases hlt : a < k.toNat + 1
    · have hlt' : (a : Int) < k + 1 := by omega
      have m1 := hMb.out a (by omega)
      have p1 := hB1.out a (by omega)
      have p2 := hB2.out (k - a).toNat (by omega)
      have e : M (a + 1) = max (M a) (pays (n / 2).toNat a + pays (n - n / 2).toNat (k.toNat - a)) := by rw [show k.toNat - a = (k - a).toNat by omega]; exact hM.out a (by omega)
      have ha0 : (0 : Int) ≤ a := by omega
      have P1 : ((pays (n / 2).toNat a : Nat) : Int) ≤ 200 := by omega
      have P2 : ((pays (n - n / 2).toNat (k.toNat - a) : Nat) : Int) ≤ 200 := by rw [show k.toNat - a = (k - a).toNat by omega]; omega
      clear p1 p2
      go_wp2_with (go_at_call 167; refine (h1.out _ _ ?_ ?_ _).mono ?_; omega; omega; rintro e w' ⟨rfl, z, rfl⟩)
      go_roundw
      case rel => exact ⟨a + 1, by omega, by go_num, by go_num, _, rfl⟩
      case measure => simp [intOf]; omega
    · have hlt' : ¬(a : Int) < k + 1 := by omega
      have m1 := hMb.out a (by omega)
      go_wp2_with (go_at_call 102; refine (hl.out _).mono ?_; rintro e w' ⟨rfl, rfl⟩)
      go_ret
      have hak : a = k.toNat + 1 := by omega
      exact ⟨ret_int (by rw [E.out, hak]), _, rfl⟩
theorem bitsOf_any (hB : Book b m w) (n k : Int) (hn : 1 ≤ n ∧ n ≤ 16) (hk : 0 ≤ k ∧ k ≤ 32) : BkCalls m w 167 #[.pointer (some ⟨b, 0, none⟩), .int .i64 n, .int .i64 k] (.int .i64 ((pays n.toNat k.toNat : Nat) : Int)) := by
  by_cases h : n ≤ 8
  · exact bitsOf_low hB n k (by omega) hk
  · by_cases h0 : k = 0
    · subst h0; exact bitsOf_zero _ n
    · exact bitsOf_wide hB n k (by omega) (by omega)
theorem bits_any (hB : Book b m w) (n k : Int) : BkCalls m w 165 #[.pointer (some ⟨b, 0, none⟩), .int .i64 n, .int .i64 k] (.int .i64 (bitsF n k)) := by
  intro x
  have hc := Lib.hid (cap_any hB n)
  have hb := Lib.hid (bitsOf_any hB n k)
  by_cases h0 : 0 ≤ k
  · by_cases h1 : k ≤ capF n
    · have hp := capF_pos n k h0 h1
      have E := Lib.hid (show bitsF n k = (pays n.toNat k.toNat : Nat) from by unfold bitsF; rw [if_pos ⟨h0, h1⟩])
      go_enter Tryd.func165, Tryd.ntmps165
      go_wp2_with (first | (go_at_call 163; refine (hc.out _).mono ?_; rintro e w' ⟨rfl, y, rfl⟩) | (go_at_call 167; refine (hb.out ?_ ?_ _).mono ?_; omega; omega; rintro e w' ⟨rfl, y, rfl⟩))
      go_ret
      exact ⟨ret_int E.out.symm, _, rfl⟩
    · have E := Lib.hid (show bitsF n k = -1 from by unfold bitsF; rw [if_neg (by omega)])
      go_enter Tryd.func165, Tryd.ntmps165
      go_wp2_with (go_at_call 163; refine (hc.out _).mono ?_; rintro e w' ⟨rfl, y, rfl⟩)
      go_ret
      exact ⟨ret_int E.out.symm, _, rfl⟩
  · have E := Lib.hid (show bitsF n k = -1 from by unfold bitsF; rw [if_neg (by omega)])
    go_enter Tryd.func165, Tryd.ntmps165
    go_wp2
    go_ret
    exact ⟨ret_int E.out.symm, _, rfl⟩
end
end Go.Proofs.YtbcdnbbpkikppaaDoor
end

section
namespace Go.Proofs.YtbcdnbbpkikppaaDoor
open Go.RowKit Go.BigFrame Go.Vec Go.Cost
set_option linter.unusedSimpArgs false
theorem SheetOK.cap_cell {b : Nat} {w : World} (h : SheetOK b w) (n : Nat) (hn : 1 ≤ n ∧ n ≤ 16) : w.cell? ⟨b, n, none⟩ = some (.int .i64 (cap n : Nat)) := by
  obtain ⟨cs, h1, h2⟩ := h
  have := h2.cap_done n (by omega) (by unfold ShC; omega)
  unfold capG at this
  rw [if_neg (by omega)] at this
  simp [World.cell?, h1, this]
theorem SheetOK.bits_cell {b : Nat} {w : World} (h : SheetOK b w) (n k : Nat) (hn : 1 ≤ n ∧ n ≤ 16) (hk : k ≤ cap n) : w.cell? ⟨b, 17 + n * 33 + k, none⟩ = some (.int .i64 (pays n k : Nat)) := by
  obtain ⟨cs, h1, h2⟩ := h
  have hc := cap_le32 n (by omega)
  have := h2.bits_done n k (by omega) (by omega) (by unfold ShB; omega)
  simp [World.cell?, h1, this]
theorem sheetCap_in (s : Nat) (w : World) (hS : SheetOK s w) (n : Nat) (hn : 1 ≤ n ∧ n ≤ 16) : Calls Tryd.prog 172 #[.pointer (some ⟨s, 0, none⟩), .int .i64 n] w fun e w' => e = .returned (.int .i64 (cap n : Nat)) ∧ w = w' := by
  have ht := Lib.hid (fun w => there_any n w)
  rw [decide_eq_true (by omega)] at ht
  have c1 := hS.cap_cell n hn
  have i1 : (n : Int) < 17 := by omega
  clear hS
  go_enter Tryd.func172, Tryd.ntmps172
  go_wp2_with (go_at_call 166; refine (ht.out _).mono ?_; rintro e w' ⟨rfl, rfl⟩)
  go_ret
  exact ⟨rfl, rfl⟩
theorem sheetCap (s : Nat) (w : World) (hS : SheetOK s w) (n : Int) : Calls Tryd.prog 172 #[.pointer (some ⟨s, 0, none⟩), .int .i64 n] w fun e w' => e = .returned (.int .i64 (capF n)) ∧ w = w' := by
  by_cases hn : 1 ≤ n ∧ n ≤ 16
  · obtain ⟨N, rfl⟩ := Int.eq_ofNat_of_zero_le (show 0 ≤ n by omega)
    rw [capF_in _ hn]
    exact sheetCap_in s w hS N (by omega)
  · rw [capF_out n hn]
    have ht := Lib.hid (fun w => there_any n w)
    rw [decide_eq_false hn] at ht
    clear hS hn
    go_enter Tryd.func172, Tryd.ntmps172
    go_wp2_with (go_at_call 166; refine (ht.out _).mono ?_; rintro e w' ⟨rfl, rfl⟩)
    go_ret
    exact ⟨rfl, rfl⟩
theorem sheetBits_in (s : Nat) (w : World) (hS : SheetOK s w) (n k : Nat) (hn : 1 ≤ n ∧ n ≤ 16) (hk : k ≤ cap n) : Calls Tryd.prog 176 #[.pointer (some ⟨s, 0, none⟩), .int .i64 n, .int .i64 k] w fun e w' => e = .returned (.int .i64 (pays n k : Nat)) ∧ w = w' := by
  have ht := Lib.hid (sheetCap_in s w hS n hn)
  have c1 := hS.bits_cell n k hn hk
  have c32 := cap_le32 n (by omega)
  have i1 : (n : Int) < 17 := by omega
  have i2 : (k : Int) < 33 := by omega
  have i3 : ¬(cap n : Int) < k := by omega
  clear hS
  go_enter Tryd.func176, Tryd.ntmps176
  go_wp2_with (go_at_call 172; refine ht.out.mono ?_; rintro e w' ⟨rfl, rfl⟩)
  go_ret
  exact ⟨rfl, rfl⟩
theorem sheetBits (s : Nat) (w : World) (hS : SheetOK s w) (n k : Int) : Calls Tryd.prog 176 #[.pointer (some ⟨s, 0, none⟩), .int .i64 n, .int .i64 k] w fun e w' => e = .returned (.int .i64 (bitsF n k)) ∧ w = w' := by
  by_cases h0 : 0 ≤ k
  · by_cases h1 : k ≤ capF n
    · have hp := capF_pos n k h0 h1
      obtain ⟨N, rfl⟩ := Int.eq_ofNat_of_zero_le (show 0 ≤ n by omega)
      obtain ⟨K, rfl⟩ := Int.eq_ofNat_of_zero_le h0
      rw [show bitsF N K = (pays N K : Nat) from by unfold bitsF; rw [if_pos ⟨h0, h1⟩]; simp]
      rw [capF_in _ (by omega)] at h1
      exact sheetBits_in s w hS N K (by omega) (by simpa using h1)
    · have E := Lib.hid (show bitsF n k = -1 from by unfold bitsF; rw [if_neg (by omega)])
      have ht := Lib.hid (sheetCap s w hS n)
      clear hS
      go_enter Tryd.func176, Tryd.ntmps176
      go_wp2_with (go_at_call 172; refine ht.out.mono ?_; rintro e w' ⟨rfl, rfl⟩)
      go_ret
      exact ⟨ret_int E.out.symm, rfl⟩
  · have E := Lib.hid (show bitsF n k = -1 from by unfold bitsF; rw [if_neg (by omega)])
    clear hS
    go_enter Tryd.func176, Tryd.ntmps176
    go_wp2
    go_ret
    exact ⟨ret_int E.out.symm, rfl⟩
end Go.Proofs.YtbcdnbbpkikppaaDoor
end

section
namespace Go.Proofs.YtbcdnbbpkikppaaDoor
open Go.RowKit Go.BigFrame
set_option linter.unusedSimpArgs false
abbrev RightP (s c : Int) : Prop := 0 ≤ s ∧ s < 3 ∧ 1 ≤ c ∧ c ≤ 2
def bandsF (s c : Int) : Int := if RightP s c then 3 + s else 0
def widL : List Int := [2, 2, 4, 8, 16]
def widthF (s c b : Int) : Int := if 0 ≤ b ∧ b < bandsF s c then widL.getD b.toNat 0 else 0
def slopeF (s c t b : Int) : Int := if widthF s c b = 0 then 0 else 64 / widthF s c b + (8 - min (max t 0) 7) * b
theorem bandsF_bd (s c : Int) : 0 ≤ bandsF s c ∧ bandsF s c ≤ 5 := by
  unfold bandsF
  split
  · omega
  · omega
theorem widthF_bd (s c b : Int) : widthF s c b = 0 ∨ (0 ≤ b ∧ b < 5 ∧ b < bandsF s c ∧ 2 ≤ widthF s c b ∧ widthF s c b ≤ 16) := by
  have hb := bandsF_bd s c
  unfold widthF
  split
  · rename_i h
    right
    have h5 : ∀ i : Fin 5, 2 ≤ widL.getD i.val 0 ∧ widL.getD i.val 0 ≤ 16 := by decide
    have := h5 ⟨b.toNat, by omega⟩
    simp only at this
    omega
  · exact .inl rfl
abbrev WidthW (w : World) : Prop := TabW 0 5 .i64 widL w
theorem WidthW.at {w : World} (h : WidthW w) (j : Int) (h0 : 0 ≤ j) (h1 : j < 5) : w.cell? ⟨0, j.toNat, none⟩ = some (.int .i64 (widL.getD j.toNat 0)) := h.2 j.toNat (by omega)
theorem modeRight (s c : Int) (w : World) : Calls Tryd.prog 45 #[.agg #[.int .i64 s, .int .i64 c]] w fun e w' => e = .returned (.bool (decide (RightP s c))) ∧ Below w.heap.size w w' := by
  by_cases h0 : 0 ≤ s
  · skip
    by_cases h1 : s < 3
    · skip
      by_cases h2 : 1 ≤ c
      · skip
        by_cases h3 : c ≤ 2
        · skip
          go_enter Tryd.func45, Tryd.ntmps45
          go_wp2
          go_ret
          exact ⟨ret_bool (by first | rfl | (simp; done) | (simp; omega)), by (repeat' (first | with_reducible (first | exact Below.refl _ _ | assumption | refine Below.alloc ?_ ?_ _ | refine below_grew ?_ ?_ _ | refine Below.setCell ?_ ?_ _ | refine Below.drew ?_ | refine below_drewN ?_ _) | omega | (simp; done) | (simp; omega)))⟩
        · skip
          go_enter Tryd.func45, Tryd.ntmps45
          go_wp2
          go_ret
          exact ⟨ret_bool (by first | rfl | (simp; done) | (simp; omega)), by (repeat' (first | with_reducible (first | exact Below.refl _ _ | assumption | refine Below.alloc ?_ ?_ _ | refine below_grew ?_ ?_ _ | refine Below.setCell ?_ ?_ _ | refine Below.drew ?_ | refine below_drewN ?_ _) | omega | (simp; done) | (simp; omega)))⟩
      · skip
        go_enter Tryd.func45, Tryd.ntmps45
        go_wp2
        go_ret
        exact ⟨ret_bool (by first | rfl | (simp; done) | (simp; omega)), by (repeat' (first | with_reducible (first | exact Below.refl _ _ | assumption | refine Below.alloc ?_ ?_ _ | refine below_grew ?_ ?_ _ | refine Below.setCell ?_ ?_ _ | refine Below.drew ?_ | refine below_drewN ?_ _) | omega | (simp; done) | (simp; omega)))⟩
    · skip
      go_enter Tryd.func45, Tryd.ntmps45
      go_wp2
      go_ret
      exact ⟨ret_bool (by first | rfl | (simp; done) | (simp; omega)), by (repeat' (first | with_reducible (first | exact Below.refl _ _ | assumption | refine Below.alloc ?_ ?_ _ | refine below_grew ?_ ?_ _ | refine Below.setCell ?_ ?_ _ | refine Below.drew ?_ | refine below_drewN ?_ _) | omega | (simp; done) | (simp; omega)))⟩
  · skip
    go_enter Tryd.func45, Tryd.ntmps45
    go_wp2
    go_ret
    exact ⟨ret_bool (by first | rfl | (simp; done) | (simp; omega)), by (repeat' (first | with_reducible (first | exact Below.refl _ _ | assumption | refine Below.alloc ?_ ?_ _ | refine below_grew ?_ ?_ _ | refine Below.setCell ?_ ?_ _ | refine Below.drew ?_ | refine below_drewN ?_ _) | omega | (simp; done) | (simp; omega)))⟩
theorem modeBands (s c : Int) (w : World) : Calls Tryd.prog 28 #[.agg #[.int .i64 s, .int .i64 c]] w fun e w' => e = .returned (.int .i64 (bandsF s c)) ∧ Below w.heap.size w w' := by
  have hr := Lib.hid (fun w => modeRight s c w)
  by_cases h : RightP s c
  · have E := Lib.hid (show bandsF s c = 3 + s from by unfold bandsF; rw [if_pos h])
    rw [decide_eq_true h] at hr
    obtain ⟨h1, h2, _, _⟩ := h
    go_enter Tryd.func28, Tryd.ntmps28
    go_wp2_with (go_at_call 45; refine (hr.out _).mono ?_; rintro e w' ⟨rfl, hb1⟩; obtain ⟨x1, rfl⟩ := below_as_grew hb1; clear hb1)
    go_ret
    exact ⟨ret_int E.out.symm, by (repeat' (first | with_reducible (first | exact Below.refl _ _ | assumption | refine Below.alloc ?_ ?_ _ | refine below_grew ?_ ?_ _ | refine Below.setCell ?_ ?_ _ | refine Below.drew ?_ | refine below_drewN ?_ _) | omega | (simp; done) | (simp; omega)))⟩
  · have E := Lib.hid (show bandsF s c = 0 from by unfold bandsF; rw [if_neg h])
    rw [decide_eq_false h] at hr
    clear h
    go_enter Tryd.func28, Tryd.ntmps28
    go_wp2_with (go_at_call 45; refine (hr.out _).mono ?_; rintro e w' ⟨rfl, hb1⟩; obtain ⟨x1, rfl⟩ := below_as_grew hb1; clear hb1)
    go_ret
    exact ⟨ret_int E.out.symm, by (repeat' (first | with_reducible (first | exact Below.refl _ _ | assumption | refine Below.alloc ?_ ?_ _ | refine below_grew ?_ ?_ _ | refine Below.setCell ?_ ?_ _ | refine Below.drew ?_ | refine below_drewN ?_ _) | omega | (simp; done) | (simp; omega)))⟩
theorem modeHas (s c b : Int) (w : World) : Calls Tryd.prog 59 #[.agg #[.int .i64 s, .int .i64 c], .int .i64 b] w fun e w' => e = .returned (.bool (decide (0 ≤ b ∧ b < bandsF s c))) ∧ Below w.heap.size w w' := by
  have hb := Lib.hid (fun w => modeBands s c w)
  by_cases h : 0 ≤ b
  · by_cases h2 : b < bandsF s c
    · skip
      go_enter Tryd.func59, Tryd.ntmps59
      go_wp2_with (go_at_call 28; refine (hb.out _).mono ?_; rintro e w' ⟨rfl, hb1⟩; obtain ⟨x1, rfl⟩ := below_as_grew hb1; clear hb1)
      go_ret
      exact ⟨ret_bool (by first | rfl | (simp; done) | (simp; omega)), by (repeat' (first | with_reducible (first | exact Below.refl _ _ | assumption | refine Below.alloc ?_ ?_ _ | refine below_grew ?_ ?_ _ | refine Below.setCell ?_ ?_ _ | refine Below.drew ?_ | refine below_drewN ?_ _) | omega | (simp; done) | (simp; omega)))⟩
    · skip
      go_enter Tryd.func59, Tryd.ntmps59
      go_wp2_with (go_at_call 28; refine (hb.out _).mono ?_; rintro e w' ⟨rfl, hb1⟩; obtain ⟨x1, rfl⟩ := below_as_grew hb1; clear hb1)
      go_ret
      exact ⟨ret_bool (by first | rfl | (simp; done) | (simp; omega)), by (repeat' (first | with_reducible (first | exact Below.refl _ _ | assumption | refine Below.alloc ?_ ?_ _ | refine below_grew ?_ ?_ _ | refine Below.setCell ?_ ?_ _ | refine Below.drew ?_ | refine below_drewN ?_ _) | omega | (simp; done) | (simp; omega)))⟩
  · skip
    go_enter Tryd.func59, Tryd.ntmps59
    go_wp2
    go_ret
    exact ⟨ret_bool (by first | rfl | (simp; done) | (simp; omega)), by (repeat' (first | with_reducible (first | exact Below.refl _ _ | assumption | refine Below.alloc ?_ ?_ _ | refine below_grew ?_ ?_ _ | refine Below.setCell ?_ ?_ _ | refine Below.drew ?_ | refine below_drewN ?_ _) | omega | (simp; done) | (simp; omega)))⟩
theorem modeWidth (s c b : Int) (w : World) (hT : WidthW w) : Calls Tryd.prog 30 #[.agg #[.int .i64 s, .int .i64 c], .int .i64 b] w fun e w' => e = .returned (.int .i64 (widthF s c b)) ∧ Below w.heap.size w w' := by
  have hh := Lib.hid (fun w => modeHas s c b w)
  have hbd := bandsF_bd s c
  by_cases h : 0 ≤ b ∧ b < bandsF s c
  · have E := Lib.hid (show widthF s c b = widL.getD b.toNat 0 from by unfold widthF; rw [if_pos h])
    have hc := hT.at b h.1 (by omega)
    have hg := hT.1
    generalize widL.getD b.toNat 0 = x at *
    rw [decide_eq_true h] at hh
    obtain ⟨h1, h2⟩ := h
    have h5 : b < 5 := by omega
    have hg0 : w.heap.size ≠ 0 := by omega
    have hg1 : 0 < w.heap.size := by omega
    clear hT hbd h2
    go_enter Tryd.func30, Tryd.ntmps30
    go_wp2_with (go_at_call 59; refine (hh.out _).mono ?_; rintro e w' ⟨rfl, hb1⟩; obtain ⟨x1, rfl⟩ := below_as_grew hb1; clear hb1)
    go_ret
    exact ⟨ret_int E.out.symm, by (repeat' (first | with_reducible (first | exact Below.refl _ _ | assumption | refine Below.alloc ?_ ?_ _ | refine below_grew ?_ ?_ _ | refine Below.setCell ?_ ?_ _ | refine Below.drew ?_ | refine below_drewN ?_ _) | omega | (simp; done) | (simp; omega)))⟩
  · have E := Lib.hid (show widthF s c b = 0 from by unfold widthF; rw [if_neg h])
    rw [decide_eq_false h] at hh
    clear h hT hbd
    go_enter Tryd.func30, Tryd.ntmps30
    go_wp2_with (go_at_call 59; refine (hh.out _).mono ?_; rintro e w' ⟨rfl, hb1⟩; obtain ⟨x1, rfl⟩ := below_as_grew hb1; clear hb1)
    go_ret
    exact ⟨ret_int E.out.symm, by (repeat' (first | with_reducible (first | exact Below.refl _ _ | assumption | refine Below.alloc ?_ ?_ _ | refine below_grew ?_ ?_ _ | refine Below.setCell ?_ ?_ _ | refine Below.drew ?_ | refine below_drewN ?_ _) | omega | (simp; done) | (simp; omega)))⟩
end Go.Proofs.YtbcdnbbpkikppaaDoor
end

section
namespace Go.Proofs.YtbcdnbbpkikppaaDoor
open Go.RowKit Go.BigFrame
set_option linter.unusedSimpArgs false
theorem quo64 (x : Int) (h : 2 ≤ x) : 0 ≤ 64 / x ∧ 64 / x ≤ 32 := by
  refine ⟨Int.ediv_nonneg (by omega) (by omega), ?_⟩
  have h1 : 64 / x < 33 := Int.ediv_lt_of_lt_mul (by omega) (by omega)
  omega
theorem slopeF_bd (s c t b : Int) : 0 ≤ slopeF s c t b ∧ slopeF s c t b ≤ 64 := by
  unfold slopeF
  split
  · omega
  · rename_i h
    rcases widthF_bd s c b with h' | ⟨b0, b5, _, h2, h16⟩
    · exact absurd h' h
    · have := quo64 _ h2
      have : b = 0 ∨ b = 1 ∨ b = 2 ∨ b = 3 ∨ b = 4 := by omega
      rcases this with rfl | rfl | rfl | rfl | rfl <;> omega
theorem slope_any (s c t b : Int) (w : World) (hT : WidthW w) : Calls Tryd.prog 164 #[.agg #[.int .i64 s, .int .i64 c], .int .i64 t, .int .i64 b] w fun e w' => e = .returned (.int .i64 (slopeF s c t b)) ∧ Below w.heap.size w w' := by
  have hw := Lib.hid (fun w hT => modeWidth s c b w hT)
  have HT := Lib.hid hT
  have hg := hT.1
  rcases widthF_bd s c b with h0 | ⟨b0, b5, _, h2, h16⟩
  · have E := Lib.hid (show slopeF s c t b = 0 from by unfold slopeF; rw [if_pos h0])
    rw [h0] at hw
    clear hT
    go_enter Tryd.func164, Tryd.ntmps164
    go_wp2_with (go_at_call 30; refine (hw.out _ (HT.out.below (by (repeat' (first | with_reducible (first | exact Below.refl _ _ | assumption | refine Below.alloc ?_ ?_ _ | refine below_grew ?_ ?_ _ | refine Below.setCell ?_ ?_ _ | refine Below.drew ?_ | refine below_drewN ?_ _) | omega | (simp; done) | (simp; omega)))))).mono ?_; rintro e w' ⟨rfl, hb1⟩; obtain ⟨x1, rfl⟩ := below_as_grew hb1; clear hb1)
    go_ret
    exact ⟨ret_int E.out.symm, by (repeat' (first | with_reducible (first | exact Below.refl _ _ | assumption | refine Below.alloc ?_ ?_ _ | refine below_grew ?_ ?_ _ | refine Below.setCell ?_ ?_ _ | refine Below.drew ?_ | refine below_drewN ?_ _) | omega | (simp; done) | (simp; omega)))⟩
  · have hq := quo64 _ h2
    have hne : (widthF s c b == 0) = false := by rw [beq_eq_false_iff_ne]; omega
    have hne' : ¬widthF s c b = 0 := by omega
    clear hT
    have hb : b = 0 ∨ b = 1 ∨ b = 2 ∨ b = 3 ∨ b = 4 := by omega
    have E := Lib.hid (show slopeF s c t b = 64 / widthF s c b + (8 - min (max t 0) 7) * b from by unfold slopeF; rw [if_neg hne'])
    generalize widthF s c b = x at *
    rcases hb with rfl | rfl | rfl | rfl | rfl
    all_goals
      go_enter Tryd.func164, Tryd.ntmps164
      go_wp2_with (go_at_call 30; refine (hw.out _ (HT.out.below (by (repeat' (first | with_reducible (first | exact Below.refl _ _ | assumption | refine Below.alloc ?_ ?_ _ | refine below_grew ?_ ?_ _ | refine Below.setCell ?_ ?_ _ | refine Below.drew ?_ | refine below_drewN ?_ _) | omega | (simp; done) | (simp; omega)))))).mono ?_; rintro e w' ⟨rfl, hb1⟩; obtain ⟨x1, rfl⟩ := below_as_grew hb1; clear hb1)
      go_ret
      exact ⟨ret_int (by first | (rw [E.out]; done) | (rw [E.out]; omega)), by (repeat' (first | with_reducible (first | exact Below.refl _ _ | assumption | refine Below.alloc ?_ ?_ _ | refine below_grew ?_ ?_ _ | refine Below.setCell ?_ ?_ _ | refine Below.drew ?_ | refine below_drewN ?_ _) | omega | (simp; done) | (simp; omega)))⟩
end Go.Proofs.YtbcdnbbpkikppaaDoor
end

