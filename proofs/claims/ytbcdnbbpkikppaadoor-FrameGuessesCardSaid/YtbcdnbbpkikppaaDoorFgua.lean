/-
  '|' of a number's high part and its low bits is their sum.
  (One text out of these parts: Kit, Eq, Rgn, RgnI, Flat, Wf, Base, Chg, Av, Frm, AskE, Guess, Rdr, RdrG, RgnK, Bits.)
-/
import Derived.Deep.Quiet
import Derived.StillTail
import Derived.BigQuiet
import Derived.Below
import Derived.WalkKit
import Derived.WalkLawsBesides
import Derived.Lib.Hide
import Derived.Carry
import Derived.IntWalk
import Derived.Maps.AppendAt
import Derived.OwnWalk
import Derived.KernelRfl
import Derived.Laws.StructEq
import Derived.OpenShut
import Derived.Deep.MidRow
import Derived.Laws.CopyOwn
import Derived.Laws.Tables
import Derived.Laws.ResultCell
import Derived.Laws.Rows
import Derived.Lib.SliceRun
import Derived.Test.YtbcdnbbpkikppaaDoorWWords
import Derived.Test.YtbcdnbbpkikppaaDoorWLast
import Derived.Test.YtbcdnbbpkikppaaDoorWMore
import Derived.Test.YtbcdnbbpkikppaaDoorProg
section
namespace Go
open Go.RowKit
/-- Blocks more, and another count of draws. -/
structure Grown.By where
  objs : Array Obj
  drawn : Nat
instance : Inhabited Grown.By := ⟨⟨#[], 0⟩⟩
/-- 'w' with blocks more, and another count of draws. -/
def World.grew (w : World) (x : Grown.By) : World := { w with heap := w.heap ++ x.objs, drawn := x.drawn }
section
variable (w : World) (x y : Grown.By)
theorem World.grew_block (k : Nat) (h : k < w.heap.size) : (w.grew x).heap[k]? = w.heap[k]? := by
  show (w.heap ++ x.objs)[k]? = _
  rw [Array.getElem?_append_left h]
@[simp, go_sem] theorem World.size_grew : (w.grew x).heap.size = w.heap.size + x.objs.size := by
  show (w.heap ++ x.objs).size = _
  simp
@[go_sem] theorem World.grew_grew : (w.grew x).grew y = w.grew ⟨x.objs ++ y.objs, y.drawn⟩ := by
  unfold World.grew
  simp [Array.append_assoc]
@[go_sem] theorem World.drew_grew : (w.grew x).drew = w.grew ⟨x.objs, x.drawn + 1⟩ := rfl
@[go_sem] theorem World.grew_drew : w.drew.grew x = w.grew x := rfl
@[go_sem] theorem World.grew_drewN (n : Nat) : (w.drewN n).grew x = w.grew x := rfl
@[go_sem] theorem World.drewN_grew (n : Nat) : (w.grew x).drewN n = w.grew ⟨x.objs, x.drawn + n⟩ := rfl
@[go_sem] theorem World.cell?_grew (n i : Nat) (s : Option Nat) (hn : n < w.heap.size) : (w.grew x).cell? ⟨n, i, s⟩ = w.cell? ⟨n, i, s⟩ := by
  unfold World.cell?
  rw [World.grew_block w x n hn]
@[go_sem] theorem World.frozen?_grew (n i : Nat) (s : Option Nat) (hn : n < w.heap.size) : (w.grew x).frozen? ⟨n, i, s⟩ = w.frozen? ⟨n, i, s⟩ := by
  unfold World.frozen?
  rw [World.grew_block w x n hn]
@[go_sem] theorem World.shape?_grew (n : Nat) (hn : n < w.heap.size) : (w.grew x).shape? n = w.shape? n := by
  unfold World.shape?
  rw [World.grew_block w x n hn]
@[go_sem] theorem World.setCell_grew (n i : Nat) (s : Option Nat) (v : Value) (hn : n < w.heap.size) : (w.grew x).setCell ⟨n, i, s⟩ v = (w.setCell ⟨n, i, s⟩ v).grew x := by
  unfold World.setCell World.grew
  congr 1
  apply Array.ext_getElem?
  intro k
  simp only [Array.getElem?_modify, Array.getElem?_append, Array.size_modify]
  by_cases hk : k < w.heap.size
  · simp [hk]
  · simp [hk]
    intro h; omega
@[go_sem] theorem World.heap_grew (k : Nat) (hk : k < w.heap.size) : (w.grew x).heap[k]? = w.heap[k]? := World.grew_block w x k hk
@[simp] theorem World.os_grew : (w.grew x).os = w.os := rfl
@[simp] theorem World.tape_grew : (w.grew x).tape = w.tape := rfl
end
@[go_sem] theorem lt_add_of_lt1 (a b c0 : Nat) (h : a < b) : (a < b + c0) = True := eq_true (by omega)
@[go_sem] theorem le_add_of_lt1 (a b c0 : Nat) (h : a < b) : (a ≤ b + c0) = True := eq_true (by omega)
@[go_sem] theorem ne_add_of_lt1 (a b c0 : Nat) (h : a < b) : (a = b + c0) = False := eq_false (by omega)
@[go_sem] theorem lt_add_of_lt2 (a b c0 c1 : Nat) (h : a < b) : (a < b + c0 + c1) = True := eq_true (by omega)
@[go_sem] theorem le_add_of_lt2 (a b c0 c1 : Nat) (h : a < b) : (a ≤ b + c0 + c1) = True := eq_true (by omega)
@[go_sem] theorem ne_add_of_lt2 (a b c0 c1 : Nat) (h : a < b) : (a = b + c0 + c1) = False := eq_false (by omega)
@[go_sem] theorem lt_add_of_lt3 (a b c0 c1 c2 : Nat) (h : a < b) : (a < b + c0 + c1 + c2) = True := eq_true (by omega)
@[go_sem] theorem le_add_of_lt3 (a b c0 c1 c2 : Nat) (h : a < b) : (a ≤ b + c0 + c1 + c2) = True := eq_true (by omega)
@[go_sem] theorem ne_add_of_lt3 (a b c0 c1 c2 : Nat) (h : a < b) : (a = b + c0 + c1 + c2) = False := eq_false (by omega)
@[go_sem] theorem lt_add_of_lt4 (a b c0 c1 c2 c3 : Nat) (h : a < b) : (a < b + c0 + c1 + c2 + c3) = True := eq_true (by omega)
@[go_sem] theorem le_add_of_lt4 (a b c0 c1 c2 c3 : Nat) (h : a < b) : (a ≤ b + c0 + c1 + c2 + c3) = True := eq_true (by omega)
@[go_sem] theorem ne_add_of_lt4 (a b c0 c1 c2 c3 : Nat) (h : a < b) : (a = b + c0 + c1 + c2 + c3) = False := eq_false (by omega)
@[go_sem] theorem lt_add_of_lt5 (a b c0 c1 c2 c3 c4 : Nat) (h : a < b) : (a < b + c0 + c1 + c2 + c3 + c4) = True := eq_true (by omega)
@[go_sem] theorem le_add_of_lt5 (a b c0 c1 c2 c3 c4 : Nat) (h : a < b) : (a ≤ b + c0 + c1 + c2 + c3 + c4) = True := eq_true (by omega)
@[go_sem] theorem ne_add_of_lt5 (a b c0 c1 c2 c3 c4 : Nat) (h : a < b) : (a = b + c0 + c1 + c2 + c3 + c4) = False := eq_false (by omega)
@[go_sem] theorem le_self2 (a c0 c1 : Nat) : (a ≤ a + c0 + c1) = True := eq_true (by omega)
@[go_sem] theorem le_self3 (a c0 c1 c2 : Nat) : (a ≤ a + c0 + c1 + c2) = True := eq_true (by omega)
@[go_sem] theorem le_self4 (a c0 c1 c2 c3 : Nat) : (a ≤ a + c0 + c1 + c2 + c3) = True := eq_true (by omega)
@[go_sem] theorem le_self5 (a c0 c1 c2 c3 c4 : Nat) : (a ≤ a + c0 + c1 + c2 + c3 + c4) = True := eq_true (by omega)
@[go_sem] theorem le_self6 (a c0 c1 c2 c3 c4 c5 : Nat) : (a ≤ a + c0 + c1 + c2 + c3 + c4 + c5) = True := eq_true (by omega)
@[go_sem] theorem lt_self1 (a c0 : Nat) : (a < a + 1 + c0) = True := eq_true (by omega)
@[go_sem] theorem ne_self1 (a c0 : Nat) : (a = a + 1 + c0) = False := eq_false (by omega)
@[go_sem] theorem lt_self2 (a c0 c1 : Nat) : (a < a + 1 + c0 + c1) = True := eq_true (by omega)
@[go_sem] theorem ne_self2 (a c0 c1 : Nat) : (a = a + 1 + c0 + c1) = False := eq_false (by omega)
@[go_sem] theorem lt_self3 (a c0 c1 c2 : Nat) : (a < a + 1 + c0 + c1 + c2) = True := eq_true (by omega)
@[go_sem] theorem ne_self3 (a c0 c1 c2 : Nat) : (a = a + 1 + c0 + c1 + c2) = False := eq_false (by omega)
@[go_sem] theorem lt_self4 (a c0 c1 c2 c3 : Nat) : (a < a + 1 + c0 + c1 + c2 + c3) = True := eq_true (by omega)
@[go_sem] theorem ne_self4 (a c0 c1 c2 c3 : Nat) : (a = a + 1 + c0 + c1 + c2 + c3) = False := eq_false (by omega)
@[go_sem] theorem lt_self5 (a c0 c1 c2 c3 c4 : Nat) : (a < a + 1 + c0 + c1 + c2 + c3 + c4) = True := eq_true (by omega)
@[go_sem] theorem ne_self5 (a c0 c1 c2 c3 c4 : Nat) : (a = a + 1 + c0 + c1 + c2 + c3 + c4) = False := eq_false (by omega)
theorem World.grew_none (w : World) : w.grew ⟨#[], w.drawn⟩ = w := by unfold World.grew; simp
theorem World.as_grew (w : World) : ∃ x, w = w.grew x := ⟨_, (World.grew_none w).symm⟩
theorem below_grew {B : Nat} {a w : World} (h : Below B a w) (hB : B ≤ w.heap.size) (x : Grown.By) : Below B a (w.grew x) :=
  h.trans ⟨rfl, rfl, rfl, by simp, fun k hk => World.grew_block _ _ _ (by omega)⟩
/-- What lies below the size of 'w' is as it was: so w' is w, grown. -/
theorem below_as_grew {w w' : World} (h : Below w.heap.size w w') : ∃ x : Grown.By, w' = w.grew x := by
  refine ⟨⟨w'.heap.extract w.heap.size w'.heap.size, w'.drawn⟩, ?_⟩
  have hh : w'.heap = w.heap ++ w'.heap.extract w.heap.size w'.heap.size := by
    apply Array.ext_getElem?
    intro k
    rw [Array.getElem?_append]
    by_cases hk : k < w.heap.size
    · rw [if_pos hk, h.block k hk]
    · rw [if_neg hk, Array.getElem?_extract]
      by_cases h2 : k < w'.heap.size
      · rw [if_pos (by omega)]
        congr 1; omega
      · rw [if_neg (by omega)]
        simp; omega
  obtain ⟨hp, tp, dr, os, out⟩ := w'
  obtain ⟨a1, a2, a3, a4, a5⟩ := h
  simp only at *
  subst a1 a2 a3
  unfold World.grew
  simp only
  congr 1
section
variable {P : Program} {ops : Array Oper} {md : Region.Mode} {C : World → Prop}
def headQ (P : Program) (md : Region.Mode) (ops : Array Oper) (C : World → Prop) (n : Nat) (L : Array Bool → Act → Prop) : Nat → Array Bool → Act → Prop
  | 0, listed, a => L listed a
  | f + 1, listed, a =>
    Region.ready md ops listed ≠ [] ∧ ∀ i ∈ Region.ready md ops listed, i < n ∧ qOp P ops C i (headQ P md ops C n L f (listed.setIfInBounds i true)) a
theorem wpAny_of_headQ {n g : Nat} {L : Array Bool → Act → Prop} {Q' : Exit → Act → World → Prop} (hL : ∀ listed a w, C w → L listed a → wpAny P md ops Q' g listed a w) :
    ∀ (f : Nat) (listed : Array Bool) (a : Act) (w : World), C w → headQ P md ops C n L f listed a → wpAny P md ops Q' (f + g) listed a w
  | 0, listed, a, w, hw, h => by rw [Nat.zero_add]; exact hL _ _ _ hw h
  | f + 1, listed, a, w, hw, h => by
    rw [show f + 1 + g = (f + g) + 1 by omega]
    exact ⟨fun h0 => absurd h0 h.1, fun i hi => wpOp_of_qOp hw (fun a' w' hw' h' => wpAny_of_headQ hL f _ a' w' hw' h') (h.2 i hi).2⟩
theorem headQ_first {n i : Nat} {oi : Oper} {v : Value} {L : Array Bool → Act → Prop} (hi : ops[i]? = some oi) (hsel : ∀ (j : Nat) (o : Oper) cs b, ops[j]? = some o → o.op ≠ .select cs b)
    (hs : Region.sinkB md ops n = true) (hc : Region.chainB md ops n = true) (hn : n < ops.size) (hin : i < n)
    (hdone : ∀ listed a, L listed a → ∀ j ∈ Region.ready md ops listed, n ≤ j) :
    ∀ (f : Nat) (listed : Array Bool) (a : Act), HeadInv md ops n listed →
      (∀ j oj, ops[j]? = some oj → j ≠ i → listed.getD j true = false → (∀ e ∈ oj.after, Region.binds md e = true → e.on ≠ i) → oi.apart ops oj = true) →
      i ∈ Region.ready md ops listed → YieldsIn P ops C oi v a →
      headQ P md ops C n L f (listed.setIfInBounds i true) (a.put oi.dst v) → headQ P md ops C n L (f + 1) listed a := by
  intro f
  induction f with
  | zero =>
    intro listed a inv _ hr hy H
    have hun := (mem_ready.1 hr).1
    refine ⟨fun h => (by rw [h] at hr; cases hr), fun j hj => ?_⟩
    have hjn : j < n := by
      rcases Nat.lt_or_ge j n with h | h
      · exact h
      · exact absurd hj (tail_waits hs hc hn inv _ i rfl hin hun j h)
    refine ⟨hjn, ?_⟩
    by_cases hji : j = i
    · subst hji; exact hy.qOp hi H
    · have := hdone _ _ H j (ready_mono hj hji)
      omega
  | succ f ih =>
    intro listed a inv hfree hr hy H
    have hun := (mem_ready.1 hr).1
    refine ⟨fun h => (by rw [h] at hr; cases hr), fun j hj => ?_⟩
    have hjn : j < n := by
      rcases Nat.lt_or_ge j n with h | h
      · exact h
      · exact absurd hj (tail_waits hs hc hn inv _ i rfl hin hun j h)
    refine ⟨hjn, ?_⟩
    by_cases hji : j = i
    · subst hji; exact hy.qOp hi H
    · have h1 := (H.2 j (ready_mono hj hji)).2
      obtain ⟨hjun, oj, hoj, hall⟩ := mem_ready.1 hj
      have hnot : ∀ e ∈ oj.after, Region.binds md e = true → e.on ≠ i := fun e he hb heq => by
        have h1 := hall e he hb
        rw [heq, getD_both hun] at h1
        cases h1
      have h2 := qOp_put hoj (hfree j oj hoj hji hjun hnot) (fun cs b => hsel i oi cs b hi) (fun cs b => hsel j oj cs b hoj) hy h1
      have hfree' : ∀ k ok, ops[k]? = some ok → k ≠ i → (listed.setIfInBounds j true).getD k true = false →
          (∀ e ∈ ok.after, Region.binds md e = true → e.on ≠ i) → oi.apart ops ok = true := fun k ok hk hki hun hno => by
        refine hfree k ok hk hki ?_ hno
        by_cases hjk : j = k
        · subst hjk; exact hjun
        · rw [getD_set_ne true hjk] at hun; exact hun
      refine qOp_mono (fun a' h3 => ih (listed.setIfInBounds j true) a' (inv.set hj hjn) hfree' (ready_mono hr (Ne.symm hji)) h3.1 ?_) h2
      rw [Array.setIfInBounds_comm _ _ hji]
      exact h3.2
theorem headQ_lex {n g : Nat} {Lq : Act → Prop} (hsel : Region.noSelect ops = true) (hs : Region.sinkB md ops n = true) (hc : Region.chainB md ops n = true) (hn : n < ops.size) :
    ∀ (l : List Oper) (k : Nat) (listed : Array Bool) (a : Act), (∀ j, j < l.length → l[j]? = ops[k + j]?) → k + l.length = n → HeadInv md ops n listed →
    Region.lexHead md ops g l.length k listed = true → wpQuiet P ops C Lq l a →
    headQ P md ops C n (fun listed' a' => Region.seqB md ops g n listed' = true ∧ Lq a') l.length listed a
  | [], k, listed, a, _, hk, _, hB, h => by
    have : k = n := by simpa using hk
    subst this
    exact ⟨by simpa [Region.lexHead] using hB, h⟩
  | o :: l, k, listed, a, hl, hk, inv, hB, h => by
    have h0 : ops[k]? = some o := by simpa using (hl 0 (by simp)).symm
    simp only [List.length_cons, Region.lexHead, Bool.and_eq_true] at hB
    obtain ⟨⟨hr, hf⟩, hB'⟩ := hB
    have hkn : k < n := by simp only [List.length_cons] at hk; omega
    have hr' : k ∈ Region.ready md ops listed := by simpa using hr
    have hst : qOp P ops C k (wpQuiet P ops C Lq l) a := by unfold qOp; simp only [h0]; exact h
    obtain ⟨v, hy, hK⟩ := yieldsIn_of_qOp h0 hst
    exact headQ_first h0 (Region.noSelect_spec hsel) hs hc hn hkn (fun listed' a' hL => seqB_ready hL.1) l.length listed a inv (Region.free_spec h0 hf) hr' hy
      (headQ_lex hsel hs hc hn l (k + 1) _ _ (fun j hj => by have := hl (j + 1) (by simp; omega); simpa [Nat.add_assoc, Nat.add_comm 1 j] using this) (by simp only [List.length_cons] at hk; omega) (inv.set hr' hkn) hB' hK)
theorem wp_region_headQ {id : Nat} {Q : Exit → Act → World → Prop} {a : Act} {w : World} {l : List Oper} (n : Nat) (hm : P.follows .mixedOrders = true) (hB : Region.lexTailB .any l.toArray n = true)
    (hC : C { w with drawn := w.drawn + 1 })
    (h : wpQuiet P l.toArray C (fun a' => ∀ w', C w' → wpList P l.toArray Q (l.drop n) a' w') (l.take n) a) : (Code.region id l.toArray true).wp P Q a w := by
  simp only [Region.lexTailB, Bool.and_eq_true, decide_eq_true_eq] at hB
  obtain ⟨⟨⟨⟨hsel, hn⟩, hs⟩, hc⟩, hlex⟩ := hB
  have hn' : n < l.length := by simpa using hn
  have htl : (l.take n).length = n := by simp; omega
  have hdl : (l.drop n).length = l.toArray.size - n := by simp
  have inv0 : HeadInv .any l.toArray n (Array.replicate l.toArray.size false) :=
    ⟨by simp, fun j oj _ hl => (by rw [getD_replicate_false] at hl; cases hl), fun t _ ht => getD_in (by simpa using ht) (getD_replicate_false _ _)⟩
  have hhead := headQ_lex (P := P) (C := C) (md := .any) (ops := l.toArray) (n := n) (g := l.toArray.size - n) hsel hs hc hn (l.take n) 0 (Array.replicate l.toArray.size false) a
    (fun j hj => by rw [htl] at hj; simp [hj]) (by simpa using htl) inv0 (by rw [htl]; exact hlex) h
  rw [htl] at hhead
  refine wp_region_any hm ?_
  have := wpAny_of_headQ (P := P) (C := C) (md := .any) (ops := l.toArray) (Q' := Q) (g := l.toArray.size - n)
    (fun listed a' w' hw' hL => by
      have hq := wpAny_of_seq (P := P) (md := .any) (ops := l.toArray) (Q' := Q) (l.drop n) n listed a' w' (fun j => by simp [List.getElem?_drop]) (by rw [hdl]; exact hL.1) (hL.2 w' hw')
      rwa [hdl] at hq) n _ a _ hC hhead
  have e : n + (l.toArray.size - n) = l.toArray.size := by omega
  rwa [e] at this
/-- The class: the world at hand, grown. -/
theorem wp_region_grew {id : Nat} {Q : Exit → Act → World → Prop} {a : Act} {w : World} {l : List Oper} (n : Nat) (hm : P.follows .mixedOrders = true) (hB : Region.lexTailB .any l.toArray n = true)
    (h : wpQuiet P l.toArray (fun w' => ∃ x, w' = w.grew x) (fun a' => ∀ w', (∃ x, w' = w.grew x) → wpList P l.toArray Q (l.drop n) a' w') (l.take n) a) : (Code.region id l.toArray true).wp P Q a w :=
  wp_region_headQ n hm hB ⟨⟨#[], w.drawn + 1⟩, by unfold World.grew; simp⟩ h
/-- A region all of whose operations are quiet. -/
theorem wp_region_grew_all {id : Nat} {Q : Exit → Act → World → Prop} {a : Act} {w : World} {l : List Oper} (hm : P.follows .mixedOrders = true) (hB : Region.lexB .any l.toArray = true)
    (h : wpQuiet P l.toArray (fun w' => ∃ x, w' = w.grew x) (fun a' => ∀ w', (∃ x, w' = w.grew x) → Q .normal a' w') l a) : (Code.region id l.toArray true).wp P Q a w :=
  wp_region_quiet (C := fun w' => ∃ x, w' = w.grew x) hm hB ⟨⟨#[], w.drawn + 1⟩, by unfold World.grew; simp⟩ (by simpa using h)
theorem wp_region_grew2 {id : Nat} {Q : Exit → Act → World → Prop} {a : Act} {w : World} {x0 : Grown.By} {l : List Oper} (n : Nat) (hm : P.follows .mixedOrders = true) (hB : Region.lexTailB .any l.toArray n = true)
    (h : wpQuiet P l.toArray (fun w' => ∃ x, w' = w.grew x) (fun a' => ∀ w', (∃ x, w' = w.grew x) → wpList P l.toArray Q (l.drop n) a' w') (l.take n) a) : (Code.region id l.toArray true).wp P Q a (w.grew x0) :=
  wp_region_headQ n hm hB ⟨⟨x0.objs, x0.drawn + 1⟩, rfl⟩ h
theorem wp_region_grew_all2 {id : Nat} {Q : Exit → Act → World → Prop} {a : Act} {w : World} {x0 : Grown.By} {l : List Oper} (hm : P.follows .mixedOrders = true) (hB : Region.lexB .any l.toArray = true)
    (h : wpQuiet P l.toArray (fun w' => ∃ x, w' = w.grew x) (fun a' => ∀ w', (∃ x, w' = w.grew x) → Q .normal a' w') l a) : (Code.region id l.toArray true).wp P Q a (w.grew x0) :=
  wp_region_quiet (C := fun w' => ∃ x, w' = w.grew x) hm hB ⟨⟨x0.objs, x0.drawn + 1⟩, rfl⟩ (by simpa using h)
/-- A contract that makes memory, met in a grown world. -/
theorem Calls.grew_of {f : FuncId} {args : Array Value} {w : World} {x : Grown.By} {v : Value}
    (h : Calls P f args (w.grew x) fun e w' => e = .returned v ∧ Below (w.grew x).heap.size (w.grew x) w') : Calls P f args (w.grew x) fun e w'' => e = .returned v ∧ ∃ y, w'' = w.grew y :=
  h.mono fun _ _ ⟨he, hb⟩ => ⟨he, by
    obtain ⟨y, hy⟩ := below_as_grew hb
    exact ⟨_, hy.trans (World.grew_grew w x y)⟩⟩
end
theorem ret_int {k : IntKind} {a b : Int} (h : a = b) : Ending.returned (.int k a) = .returned (.int k b) := by rw [h]
theorem ret_bool {a b : Bool} (h : a = b) : Ending.returned (.bool a) = .returned (.bool b) := by rw [h]
def TabW (g n : Nat) (k : IntKind) (zs : List Int) (w : World) : Prop := g < w.heap.size ∧ ∀ j : Nat, j < n → w.cell? ⟨g, j, none⟩ = some (.int k (zs.getD j 0))
theorem TabW.below {g n : Nat} {k : IntKind} {zs : List Int} {w w' : World} (h : TabW g n k zs w) (hb : Below w.heap.size w w') : TabW g n k zs w' :=
  ⟨Nat.lt_of_lt_of_le h.1 hb.size, fun j hj => (hb.cell (p := ⟨g, j, none⟩) h.1).trans (h.2 j hj)⟩
theorem max2_i (k k' : IntKind) (x y : Int) : Builtin.max2 (.int k x) (.int k' y) = pure (.int k (max x y)) := by
  simp only [Builtin.max2]
  congr 2
  split <;> omega
theorem min2_i (k k' : IntKind) (x y : Int) : Builtin.min2 (.int k x) (.int k' y) = pure (.int k (min x y)) := by
  simp only [Builtin.min2]
  congr 2
  split <;> omega
theorem max_2 (ats : Array TypeId) (ty : TypeId) (a b : Value) : Builtin.max_ ats ty #[a, b] = (Builtin.max2 a b >>= fun s => pure s) := by simp only [Builtin.max_, List.foldlM_cons, List.foldlM_nil]
theorem min_2 (ats : Array TypeId) (ty : TypeId) (a b : Value) : Builtin.min_ ats ty #[a, b] = (Builtin.min2 a b >>= fun s => pure s) := by simp only [Builtin.min_, List.foldlM_cons, List.foldlM_nil]
theorem max_3 (ats : Array TypeId) (ty : TypeId) (a b c : Value) : Builtin.max_ ats ty #[a, b, c] = (Builtin.max2 a b >>= fun s => Builtin.max2 s c >>= fun s => pure s) := by simp only [Builtin.max_, List.foldlM_cons, List.foldlM_nil]
theorem min_3 (ats : Array TypeId) (ty : TypeId) (a b c : Value) : Builtin.min_ ats ty #[a, b, c] = (Builtin.min2 a b >>= fun s => Builtin.min2 s c >>= fun s => pure s) := by simp only [Builtin.min_, List.foldlM_cons, List.foldlM_nil]
attribute [go_sem] max2_i min2_i max_2 min_2 max_3 min_3
theorem maxLen_le {n : Nat} (h : n ≤ 4294967295) : n ≤ maxLen := by unfold maxLen; omega
end Go
end

section
namespace Go
set_option linter.unusedSimpArgs false
inductive Leaf where
  | int (k : IntKind)
  | bool
  deriving DecidableEq
def Leaf.fits : Leaf → Value → Bool
  | .int k, .int k' _ => decide (k = k')
  | .bool, .bool _ => true
  | _, _ => false
/-- Two cells alike. -/
def cellEq : Value → Value → Bool
  | .int _ a, .int _ b => a == b
  | .bool a, .bool b => a == b
  | _, _ => false
def cellsEq : List Value → List Value → Bool
  | [], [] => true
  | x :: xs, y :: ys => cellEq x y && cellsEq xs ys
  | _, _ => false
def fitAll : List Leaf → List Value → Bool
  | [], [] => true
  | l :: ls, x :: xs => l.fits x && fitAll ls xs
  | _, _ => false
/-- The fields' offsets are the sums of what stands ahead; none is blank. -/
def offsOk : List Field → List (List Leaf) → Nat → Bool
  | [], [], _ => true
  | f :: fs, l :: ls, o => f.name != "_" && f.offset == o && offsOk fs ls (o + l.length)
  | _, _, _ => false
/-- The cells of a type of whole numbers and bools. -/
def layout (P : Program) : Nat → TypeId → Option (List Leaf)
  | 0, _ => none
  | d + 1, t =>
    match P.underlying t with
    | some .bool => if (P.info? t).isSome && P.cellsOf t == 1 then some [.bool] else none
    | some (.int k) => if (P.info? t).isSome && P.cellsOf t == 1 then some [.int k] else none
    | some (.array n e) => (layout P d e).bind fun l => if (P.info? t).isSome && P.cellsOf t == (List.replicate n l).flatten.length then some (List.replicate n l).flatten else none
    | some (.struct fs) => (fs.toList.mapM fun f => layout P d f.type).bind fun ls => if (P.info? t).isSome && P.cellsOf t == ls.flatten.length && offsOk fs.toList ls 0 && !P.stoodInHeld t then some ls.flatten else none
    | _ => none
def isAggB (P : Program) (t : TypeId) : Bool := match P.underlying t with | some (.struct _) | some (.array _ _) => true | _ => false
def asVal (P : Program) (t : TypeId) (cs : List Value) : Value := if isAggB P t then .agg cs.toArray else cs.headD undef
theorem fitAll_length : ∀ {ls : List Leaf} {xs : List Value}, fitAll ls xs = true → xs.length = ls.length
  | [], [], _ => rfl
  | _ :: ls, _ :: xs, h => by
    simp only [fitAll, Bool.and_eq_true] at h
    simp [fitAll_length h.2]
theorem fits_bool {v : Value} (h : Leaf.bool.fits v = true) : ∃ b, v = .bool b := by
  cases v with
  | bool b => exact ⟨b, rfl⟩
  | _ => exact absurd h (by simp [Leaf.fits])
theorem fits_int {k : IntKind} {v : Value} (h : (Leaf.int k).fits v = true) : ∃ n, v = .int k n := by
  cases v with
  | int k' n =>
    have : k = k' := by simpa [Leaf.fits] using h
    exact ⟨n, by rw [this]⟩
  | _ => exact absurd h (by simp [Leaf.fits])
theorem fit_one {l : Leaf} {xs : List Value} (h : fitAll [l] xs = true) : ∃ x, xs = [x] ∧ l.fits x = true := by
  cases xs with
  | nil => simp [fitAll] at h
  | cons x xs =>
    cases xs with
    | nil => exact ⟨x, rfl, by simpa [fitAll] using h⟩
    | cons y ys => simp [fitAll] at h
theorem fitAll_append : ∀ {ls ms : List Leaf} {xs : List Value}, fitAll (ls ++ ms) xs = true → fitAll ls (xs.take ls.length) = true ∧ fitAll ms (xs.drop ls.length) = true
  | [], ms, xs, h => by simpa [fitAll] using h
  | l :: ls, ms, x :: xs, h => by
    simp only [List.cons_append, fitAll, Bool.and_eq_true] at h
    obtain ⟨h1, h2⟩ := fitAll_append h.2
    exact ⟨by simp [fitAll, h.1, h1], by simpa using h2⟩
theorem cellsEq_append : ∀ (xs ys us vs : List Value), xs.length = ys.length → cellsEq (xs ++ us) (ys ++ vs) = (cellsEq xs ys && cellsEq us vs)
  | [], [], us, vs, _ => by simp [cellsEq]
  | x :: xs, y :: ys, us, vs, h => by
    simp only [List.cons_append, cellsEq]
    rw [cellsEq_append xs ys us vs (by simpa using h), Bool.and_assoc]
section
variable {P : Program} (w : World)
theorem layout_info {d : Nat} {t : TypeId} {ls : List Leaf} (h : layout P d t = some ls) : ∃ i, P.info? t = some i ∧ i.size = ls.length := by
  cases d with
  | zero => simp [layout] at h
  | succ d =>
    have key : ∀ n : Nat, ((P.info? t).isSome && P.cellsOf t == n) = true → ∃ i, P.info? t = some i ∧ i.size = n := by
      intro n hn
      simp only [Bool.and_eq_true, beq_iff_eq] at hn
      obtain ⟨i, hi⟩ := Option.isSome_iff_exists.1 hn.1
      exact ⟨i, hi, by rw [← hn.2]; simp [Program.cellsOf, hi]⟩
    simp only [layout] at h
    split at h
    · split at h
      · cases h; exact key 1 (by assumption)
      · cases h
    · split at h
      · cases h; exact key 1 (by assumption)
      · cases h
    · simp only [Option.bind_eq_some_iff] at h
      obtain ⟨l, _, h⟩ := h
      split at h
      · cases h; exact key _ (by assumption)
      · cases h
    · simp only [Option.bind_eq_some_iff] at h
      obtain ⟨l, _, h⟩ := h
      split at h
      · rename_i hc
        cases h
        simp only [Bool.and_eq_true] at hc
        exact key _ (by simp only [Bool.and_eq_true]; exact hc.1.1)
      · cases h
    · cases h
theorem run_part_flat {d : Nat} {e : TypeId} {ls : List Leaf} (h : layout P d e = some ls) (cs : Array Value) (off : Nat) (hf : fitAll ls ((cs.toList.drop off).take ls.length) = true) :
    (part e cs off).run P w = .ok (asVal P e ((cs.toList.drop off).take ls.length)) w := by
  obtain ⟨i, hi, hs⟩ := layout_info h
  have hlen := fitAll_length hf
  cases d with
  | zero => simp [layout] at h
  | succ d =>
    have hex : (cs.extract off (off + ls.length)).toList = (cs.toList.drop off).take ls.length := by simp [List.drop_take]
    simp only [layout] at h
    unfold part asVal isAggB
    have one : ∀ (l : Leaf), ls = [l] → ∃ v, cs[off]? = some v ∧ (cs.toList.drop off).take ls.length = [v] := by
      intro l hl
      subst hl
      cases hd : cs.toList.drop off with
      | nil => rw [hd] at hlen; simp at hlen
      | cons v r =>
        refine ⟨v, ?_, by simp⟩
        have : (cs.toList.drop off)[0]? = some v := by rw [hd]; rfl
        simpa using this
    split at h
    · rename_i hu
      split at h
      · cases h
        obtain ⟨v, hv, he⟩ := one _ rfl
        simp only [Sem.run_bind, isAgg, run_underlying hu, Result.andThen_ok, Sem.run_pure, hu, Bool.false_eq_true, if_false, hv]
        rw [he]; rfl
      · cases h
    · rename_i hu
      split at h
      · cases h
        obtain ⟨v, hv, he⟩ := one _ rfl
        simp only [Sem.run_bind, isAgg, run_underlying hu, Result.andThen_ok, Sem.run_pure, hu, Bool.false_eq_true, if_false, hv]
        rw [he]; rfl
      · cases h
    · rename_i hu
      simp only [Sem.run_bind, isAgg, run_underlying hu, Result.andThen_ok, Sem.run_pure, hu, if_true, sizeOf, typeInfo, hi]
      simp only [Sem.run_bind, run_program, Result.andThen_ok, hi, Sem.run_pure, hs]
      rw [← hex]
    · rename_i hu
      simp only [Sem.run_bind, isAgg, run_underlying hu, Result.andThen_ok, Sem.run_pure, hu, if_true, sizeOf, typeInfo, hi]
      simp only [Sem.run_bind, run_program, Result.andThen_ok, hi, Sem.run_pure, hs]
      rw [← hex]
    · cases h
/-- What is to be shown of a type, at a depth. -/
def EqFlat (P : Program) (d : Nat) (t : TypeId) (ls : List Leaf) : Prop :=
  ∀ D, d ≤ D → ∀ (w : World) (xs ys : List Value), fitAll ls xs = true → fitAll ls ys = true → (Op.equalIn D t (asVal P t xs) (asVal P t ys)).run P w = .ok (cellsEq xs ys) w
theorem eqItems_flat {d D : Nat} {e : TypeId} {l : List Leaf} (hl : layout P d e = some l) (IH : EqFlat P d e l) (hD : d ≤ D) (hc : P.cellsOf e = l.length) (xs ys : Array Value) :
    ∀ (m k : Nat), fitAll (List.replicate m l).flatten (xs.toList.drop (k * l.length)) = true → fitAll (List.replicate m l).flatten (ys.toList.drop (k * l.length)) = true →
      (Op.eqItems D e (P.cellsOf e) xs ys (List.range' k m)).run P w = .ok (cellsEq (xs.toList.drop (k * l.length)) (ys.toList.drop (k * l.length))) w
  | 0, k, hx, hy => by
    have h1 : xs.toList.drop (k * l.length) = [] := List.length_eq_zero_iff.1 (by simpa using fitAll_length hx)
    have h2 : ys.toList.drop (k * l.length) = [] := List.length_eq_zero_iff.1 (by simpa using fitAll_length hy)
    rw [h1, h2]
    simp [Op.eqItems, cellsEq]
  | m + 1, k, hx, hy => by
    rw [List.replicate_succ, List.flatten_cons] at hx hy
    obtain ⟨x1, x2⟩ := fitAll_append hx
    obtain ⟨y1, y2⟩ := fitAll_append hy
    have hk : k * l.length + l.length = (k + 1) * l.length := by rw [Nat.add_mul]; omega
    rw [List.drop_drop, hk] at x2 y2
    have ih := eqItems_flat hl IH hD hc xs ys m (k + 1) x2 y2
    have ex : xs.toList.drop (k * l.length) = (xs.toList.drop (k * l.length)).take l.length ++ xs.toList.drop ((k + 1) * l.length) := by
      rw [← hk, ← List.drop_drop, List.take_append_drop]
    have ey : ys.toList.drop (k * l.length) = (ys.toList.drop (k * l.length)).take l.length ++ ys.toList.drop ((k + 1) * l.length) := by
      rw [← hk, ← List.drop_drop, List.take_append_drop]
    rw [ex, ey, cellsEq_append _ _ _ _ ((fitAll_length x1).trans (fitAll_length y1).symm)]
    simp only [List.range'_succ, Op.eqItems, Sem.run_bind]
    rw [hc] at ih ⊢
    rw [run_part_flat w hl xs (k * l.length) x1, Result.andThen_ok, run_part_flat w hl ys (k * l.length) y1, Result.andThen_ok, IH D hD w _ _ x1 y1, Result.andThen_ok]
    cases cellsEq ((xs.toList.drop (k * l.length)).take l.length) ((ys.toList.drop (k * l.length)).take l.length)
    · simp
    · simp only [Bool.not_true, Bool.false_eq_true, if_false, Bool.true_and]
      exact ih
theorem eqFields_flat {d D : Nat} (hD : d ≤ D) (xs ys : Array Value) :
    ∀ (fs : List Field) (ls : List (List Leaf)) (o : Nat), fs.mapM (fun f => layout P d f.type) = some ls → offsOk fs ls o = true → (∀ f l, f ∈ fs → layout P d f.type = some l → EqFlat P d f.type l) →
      fitAll ls.flatten (xs.toList.drop o) = true → fitAll ls.flatten (ys.toList.drop o) = true →
      (Op.eqFields D xs ys fs).run P w = .ok (cellsEq (xs.toList.drop o) (ys.toList.drop o)) w
  | [], ls, o, hm, _, _, hx, hy => by
    simp at hm
    subst hm
    have h1 : xs.toList.drop o = [] := List.length_eq_zero_iff.1 (by simpa using fitAll_length hx)
    have h2 : ys.toList.drop o = [] := List.length_eq_zero_iff.1 (by simpa using fitAll_length hy)
    rw [h1, h2]
    simp [Op.eqFields, cellsEq]
  | f :: fs, ls, o, hm, ho, IH, hx, hy => by
    rw [List.mapM_cons] at hm
    simp only [bind, Option.bind_eq_some_iff, pure, Option.some.injEq] at hm
    obtain ⟨l, hl, ls', hls, rfl⟩ := hm
    simp only [offsOk, Bool.and_eq_true, bne_iff_ne, beq_iff_eq] at ho
    obtain ⟨⟨hn, hoff⟩, ho⟩ := ho
    rw [List.flatten_cons] at hx hy
    obtain ⟨x1, x2⟩ := fitAll_append hx
    obtain ⟨y1, y2⟩ := fitAll_append hy
    rw [List.drop_drop] at x2 y2
    have ih := eqFields_flat hD xs ys fs ls' (o + l.length) hls ho (fun g l' hg => IH g l' (by simp [hg])) x2 y2
    have ex : xs.toList.drop o = (xs.toList.drop o).take l.length ++ xs.toList.drop (o + l.length) := by rw [← List.drop_drop, List.take_append_drop]
    have ey : ys.toList.drop o = (ys.toList.drop o).take l.length ++ ys.toList.drop (o + l.length) := by rw [← List.drop_drop, List.take_append_drop]
    rw [ex, ey, cellsEq_append _ _ _ _ ((fitAll_length x1).trans (fitAll_length y1).symm)]
    simp only [Op.eqFields, hn, ne_eq, not_false_eq_true, if_true, Sem.run_bind]
    rw [hoff, run_part_flat w hl xs o x1, Result.andThen_ok, run_part_flat w hl ys o y1, Result.andThen_ok, IH f l (by simp) hl D hD w _ _ x1 y1, Result.andThen_ok]
    cases cellsEq ((xs.toList.drop o).take l.length) ((ys.toList.drop o).take l.length)
    · simp
    · simp only [Bool.not_true, Bool.false_eq_true, if_false, Bool.true_and]
      exact ih
end
theorem run_equalIn_flat {P : Program} : ∀ (d : Nat) (t : TypeId) (ls : List Leaf), layout P d t = some ls → EqFlat P d t ls
  | 0, t, ls, h => by simp [layout] at h
  | d + 1, t, ls, h => by
    intro D hD w xs ys hx hy
    obtain ⟨D, rfl⟩ : ∃ E, D = E + 1 := ⟨D - 1, by omega⟩
    have hD' : d ≤ D := by omega
    simp only [layout] at h
    unfold asVal isAggB
    split at h
    · rename_i hu
      split at h
      · cases h
        obtain ⟨x, rfl, fx⟩ := fit_one hx
        obtain ⟨y, rfl, fy⟩ := fit_one hy
        · obtain ⟨a, rfl⟩ := fits_bool fx
          obtain ⟨b, rfl⟩ := fits_bool fy
          simp [hu, Op.equalIn, run_underlying hu, cellsEq, cellEq]
      · cases h
    · rename_i hu
      split at h
      · cases h
        obtain ⟨x, rfl, fx⟩ := fit_one hx
        obtain ⟨y, rfl, fy⟩ := fit_one hy
        · obtain ⟨a, rfl⟩ := fits_int fx
          obtain ⟨b, rfl⟩ := fits_int fy
          simp [hu, Op.equalIn, run_underlying hu, cellsEq, cellEq]
      · cases h
    · rename_i n e hu
      simp only [Option.bind_eq_some_iff] at h
      obtain ⟨l, hl, h⟩ := h
      split at h
      · cases h
        obtain ⟨i, hi, hs⟩ := layout_info hl
        simp only [hu, if_true]
        rw [run_equalIn_array w D _ _ hu hi, List.range_eq_range']
        have := eqItems_flat w hl (run_equalIn_flat d e l hl) hD' (by simp [Program.cellsOf, hi, hs]) xs.toArray ys.toArray n 0 (by simpa using hx) (by simpa using hy)
        simpa using this
      · cases h
    · rename_i fs hu
      simp only [Option.bind_eq_some_iff] at h
      obtain ⟨l, hl, h⟩ := h
      split at h
      · rename_i hc
        cases h
        simp only [Bool.and_eq_true, Bool.not_eq_true'] at hc
        have hfs : P.fieldsOf t = fs := by simp [Program.fieldsOf, hu]
        simp only [hu, if_true]
        rw [run_equalIn_struct w D t _ _ (by rw [hfs]; exact hu) hc.2, hfs]
        have := eqFields_flat w hD' xs.toArray ys.toArray fs.toList l 0 hl hc.1.2 (fun f l' _ h' => run_equalIn_flat d f.type l' h') (by simpa using hx) (by simpa using hy)
        simpa using this
      · cases h
    · cases h
attribute [go_sem] cellsEq cellEq
/-- '==' of two values of such a type, as the walk meets it. -/
theorem eq_flat {P : Program} (t : TypeId) (d : Nat) (ls : List Leaf) (hl : layout P d t = some ls) (hd : d ≤ 10000) (ha : isAggB P t = true) (xs ys : List Value) (hx : fitAll ls xs = true) (hy : fitAll ls ys = true) (w : World) :
    (Op.equalIn 10000 t (.agg xs.toArray) (.agg ys.toArray)).run P w = .ok (cellsEq xs ys) w := by
  have h := run_equalIn_flat d t ls hl 10000 hd w xs ys hx hy
  unfold asVal at h
  simpa [ha] using h
end Go
end

section
namespace Go
open Go.RowKit
theorem bcell {W w1 : World} (hb : Below W.heap.size W w1) : (∀ b o, b < W.heap.size → w1.cell? ⟨b, o, none⟩ = W.cell? ⟨b, o, none⟩) ∧ (∀ b o, b < W.heap.size → w1.frozen? ⟨b, o, none⟩ = W.frozen? ⟨b, o, none⟩) :=
  ⟨fun b o h => hb.cell (p := ⟨b, o, none⟩) h, fun b o h => hb.frozen (p := ⟨b, o, none⟩) h⟩
theorem alloc_at (w : World) (o : Obj) : (w.alloc o).heap[w.heap.size]? = some o := by show (w.heap.push o)[w.heap.size]? = _; simp
/-- U: what stands in each operation's slot. -/
def fillPuts : List Oper → (Nat → Value) → Nat → Act → Act
  | [], _, _, a => a
  | o :: l, U, i, a => fillPuts l U (i + 1) (a.put o.dst (U i))
def updU (U : Nat → Value) (i : Nat) (v : Value) : Nat → Value := fun j => if j = i then v else U j
def maskU (S : List Nat) (U : Nat → Value) : Nat → Value := fun j => if S.contains j then U j else undef
def predsOf (o : Oper) : List Nat := o.after.toList.filterMap fun e => if Region.binds .any e then some e.on else none
def slotOf (a : Act) (dst : Option Tmp) : Value := match dst with | some d => a.tmps.getD d undef | none => undef
abbrev RelU := (Nat → Value) → World → Prop
def HypsU (Rs : List RelU) (U : Nat → Value) (w : World) : List Nat → Prop
  | [] => True
  | p :: ps => (Rs.getD p fun _ _ => True) U w ∧ HypsU Rs U w ps
def AllU (U : Nat → Value) (w : World) : List RelU → Prop
  | [] => True
  | r :: rs => r U w ∧ AllU U w rs
def InvPost (T : World → World → Prop) (d : List Deferred) (w : World) (dst : Option Tmp) (G : Value → World → Prop) (e : Exit) (a' : Act) (w' : World) : Prop :=
  e = .normal ∧ a'.defers = d ∧ T w w' ∧ G (slotOf a' dst) w'
/-- The block that a value points into. -/
def blkOf : Value → Option Nat
  | .pointer (some a) => some a.block
  | .slice (some a) _ _ => some a.block
  | .map (some m) => some m
  | _ => none
/-- A value that points into a block made between two worlds. -/
def FreshV (v : Value) (w w' : World) : Prop := ∃ p, blkOf v = some p ∧ w.heap.size ≤ p ∧ p < w'.heap.size
/-- The fresh values differ. -/
def ApartF (F : List Nat) (U : Nat → Value) : Prop := ∀ i j, F.contains i = true → F.contains j = true → i ≠ j → blkOf (U i) ≠ blkOf (U j)
section
variable {P : Program} {ops : Array Oper}
/-- The walk: for each operation of the head what holds of its value. -/
def wpInv (P : Program) (ops : Array Oper) (F : List Nat) (C : World → Prop) (T : World → World → Prop) (hd : List Oper) (a0 : Act) (fin : (Nat → Value) → World → Prop) : Nat → List RelU → List Oper → Prop
  | _, Rs, [] => ∀ U w, C w → AllU U w Rs → ApartF F U → fin U w
  | i, Rs, o :: rest => ∃ r : RelU, (∀ U w, r U w = r (maskU (i :: predsOf o) U) w) ∧ (∀ U w w', C w → T w w' → r U w → r U w') ∧
      (∀ U w, C w → HypsU Rs U w (predsOf o) → wpList P ops (InvPost T a0.defers w o.dst fun v w' => r (updU U i v) w' ∧ (F.contains i = true → FreshV v w w')) [o] (fillPuts hd U 0 a0) w) ∧
      wpInv P ops F C T hd a0 fin (i + 1) (Rs ++ [r]) rest
theorem fillPuts_defers : ∀ (l : List Oper) (U : Nat → Value) (i : Nat) (a : Act), (fillPuts l U i a).defers = a.defers
  | [], _, _, _ => rfl
  | o :: l, U, i, a => by
    rw [fillPuts, fillPuts_defers l]
    unfold Act.put; split <;> rfl
theorem Act.put_put (a : Act) (d : Option Tmp) (u v : Value) : (a.put d u).put d v = a.put d v := by
  unfold Act.put
  cases d with
  | none => rfl
  | some d => simp
/-- No slot is written twice. -/
def distinctDst : List Oper → Bool
  | [] => true
  | o :: l => (match o.dst with | some d => l.all (fun p => p.dst != some d) | none => true) && distinctDst l
theorem put_fill_comm {d : Option Tmp} {v : Value} : ∀ (l : List Oper) (U : Nat → Value) (i : Nat) (a : Act), (∀ t, d = some t → l.all (fun p => p.dst != some t) = true) →
    fillPuts l U i (a.put d v) = (fillPuts l U i a).put d v
  | [], _, _, _, _ => rfl
  | o :: l, U, i, a, h => by
    simp only [fillPuts]
    rw [← put_fill_comm l U (i + 1) (a.put o.dst (U i)) (fun t ht => by
      have := h t ht
      simp only [List.all_cons, Bool.and_eq_true] at this
      exact this.2)]
    congr 1
    refine Act.put_comm a v (U i) ?_
    intro t ht ht2
    have := h t ht
    simp only [List.all_cons, Bool.and_eq_true, bne_iff_ne, ne_eq] at this
    exact this.1 ht2
theorem fillPuts_upd_lt : ∀ (l : List Oper) (U : Nat → Value) (k i : Nat) (v : Value) (a : Act), k < i → fillPuts l (updU U k v) i a = fillPuts l U i a
  | [], _, _, _, _, _, _ => rfl
  | o :: l, U, k, i, v, a, h => by
    simp only [fillPuts]
    rw [fillPuts_upd_lt l U k (i + 1) v _ (by omega)]
    have : updU U k v i = U i := by unfold updU; rw [if_neg (by omega)]
    rw [this]
theorem fillPuts_put : ∀ (l : List Oper) (U : Nat → Value) (i k : Nat) (o : Oper) (v : Value) (a : Act), distinctDst l = true → l[k]? = some o →
    (fillPuts l U i a).put o.dst v = fillPuts l (updU U (i + k) v) i a
  | [], _, _, _, _, _, _, _, h => by simp at h
  | p :: l, U, i, 0, o, v, a, hd, h => by
    obtain rfl : p = o := by simpa using h
    simp only [distinctDst, Bool.and_eq_true] at hd
    simp only [fillPuts, Nat.add_zero]
    rw [fillPuts_upd_lt l U i (i + 1) v _ (by omega), ← put_fill_comm l U (i + 1) _ (fun t ht => by have := hd.1; rw [ht] at this; simpa using this), Act.put_put]
    have : updU U i v i = v := by unfold updU; rw [if_pos rfl]
    rw [this]
  | p :: l, U, i, k + 1, o, v, a, hd, h => by
    simp only [distinctDst, Bool.and_eq_true] at hd
    simp only [fillPuts]
    rw [fillPuts_put l U (i + 1) k o v _ hd.2 (by simpa using h), show i + 1 + k = i + (k + 1) by omega]
    have : updU U (i + (k + 1)) v i = U i := by unfold updU; rw [if_neg (by omega)]
    rw [this]
theorem put_slot (a : Act) (d : Option Tmp) (v : Value) : a.put d (slotOf (a.put d v) d) = a.put d v := by
  cases d with
  | none => rfl
  | some d =>
    simp only [Act.put, slotOf]
    by_cases h : d < a.tmps.size
    · simp [h]
    · rw [Array.setIfInBounds_eq_of_size_le (Nat.le_of_not_lt h), Array.setIfInBounds_eq_of_size_le (Nat.le_of_not_lt h)]
theorem updU_eq (U : Nat → Value) (i : Nat) (v : Value) : updU U i v i = v := by unfold updU; rw [if_pos rfl]
theorem maskU_upd {S : List Nat} {U : Nat → Value} {i : Nat} {v : Value} (h : S.contains i = false) : maskU S (updU U i v) = maskU S U := by
  funext j
  unfold maskU updU
  by_cases e : j = i
  · subst e; rw [h]; rfl
  · rw [if_neg e]
theorem wpOp_of_list_inv {i : Nat} {o : Oper} {K : Act → World → Prop} {Q : Exit → Act → World → Prop} {a : Act} {w : World} {T : World → World → Prop} {d : List Deferred} {G : Value → World → Prop}
    (hi : ops[i]? = some o) (hd : a.defers = d)
    (hK : ∀ v w', T w w' → G (slotOf (a.put o.dst v) o.dst) w' → K (a.put o.dst v) w')
    (h : wpList P ops (InvPost T d w o.dst G) [o] a w) : wpOp P ops Q i K a w := by
  have hQ : ∀ v w', InvPost T d w o.dst G .normal (a.put o.dst v) w' → K (a.put o.dst v) w' := fun v w' h => hK v w' h.2.2.1 h.2.2.2
  have hF : ¬ LetsOut (InvPost T d w o.dst G) := by
    rintro ⟨a1, w1, h1⟩
    exact absurd h1.1 (by simp)
  unfold wpOp
  simp only [hi]
  unfold wpList at h
  split
  · rename_i hw
    rw [if_pos hw] at h
    rcases h with h | ⟨_, h⟩
    · refine .inl ?_
      unfold Oper.wp at *
      generalize (execOp a.eval o).run P w = r at *
      cases r with
      | ok n w' =>
        cases n <;> simp only [Oper.upon] at h ⊢
        case value u => exact hQ _ _ h
        case skip => exact hQ _ _ h
        case defer c =>
          have h2 : (({ a with defers := c :: a.defers } : Act).put o.dst undef).defers = d := h.2.1
          have h3 : (({ a with defers := c :: a.defers } : Act).put o.dst undef).defers = c :: a.defers := by unfold Act.put; split <;> rfl
          rw [h3, ← hd] at h2
          exact absurd (congrArg List.length h2) (by simp)
        case enter f args =>
          refine Calls.mono h fun e w'' he => ?_
          cases e with
          | returned u => exact hQ _ _ he
          | panicked c => exact absurd he.1 (by simp)
          | outgrown => exact absurd he hF
        case row row args => exact Rows.mono h fun u w'' he => hQ _ _ he
      | halt x w' =>
        cases x <;> simp only [Oper.upon] at h ⊢
        case panic u => exact absurd h.1 (by simp)
    · exact absurd h hF
  · rename_i hw
    rw [if_neg hw] at h
    exact hQ _ _ h
theorem wpList_post {o : Oper} {a : Act} {w : World} {T : World → World → Prop} {d : List Deferred} {dst : Option Tmp} {G G' : Value → World → Prop}
    (hG : ∀ a' w', InvPost T d w dst G .normal a' w' → InvPost T d w dst G' .normal a' w') (h : wpList P ops (InvPost T d w dst G) [o] a w) : wpList P ops (InvPost T d w dst G') [o] a w := by
  have hF : ¬ LetsOut (InvPost T d w dst G) := by
    rintro ⟨a1, w1, h1⟩
    exact absurd h1.1 (by simp)
  unfold wpList at h ⊢
  split
  · rename_i hw
    rw [if_pos hw] at h
    rcases h with h | ⟨_, h⟩
    · refine .inl ?_
      unfold Oper.wp at *
      generalize (execOp a.eval o).run P w = r at *
      cases r with
      | ok n w' =>
        cases n <;> simp only [Oper.upon] at h ⊢
        case value u => exact hG _ _ h
        case skip => exact hG _ _ h
        case defer c => exact hG _ _ h
        case enter f args =>
          refine Calls.mono h fun e w'' he => ?_
          cases e with
          | returned u => exact hG _ _ he
          | panicked c => exact absurd he.1 (by simp)
          | outgrown => exact absurd he hF
        case row row args => exact Rows.mono h fun u w'' he => hG _ _ he
      | halt x w' =>
        cases x <;> simp only [Oper.upon] at h ⊢
        case panic u => exact absurd h.1 (by simp)
    · exact absurd h hF
  · rename_i hw
    rw [if_neg hw] at h
    exact hG _ _ h
/-- Every edge leads back. -/
def backB (ops : Array Oper) : Bool := (List.range ops.size).all fun i => ((ops[i]?).map fun o => o.after.all fun e => !Region.binds .any e || decide (e.on < i)).getD true
def seqAfter (ops : Array Oper) (n : Nat) : Bool := Region.seqB .any ops (ops.size - n) n ((List.range ops.size).map fun i => decide (i < n)).toArray
def invB (ops : Array Oper) (n : Nat) : Bool :=
  decide (n < ops.size) && Region.sinkB .any ops n && Region.chainB .any ops n && backB ops && distinctDst (ops.toList.take n) && seqAfter ops n
theorem backB_spec (h : backB ops = true) {i : Nat} {o : Oper} (ho : ops[i]? = some o) : ∀ e ∈ o.after, Region.binds .any e = true → e.on < i := by
  intro e he hb
  have hlt : i < ops.size := (Array.getElem?_eq_some_iff.1 ho).1
  have h1 := List.all_eq_true.1 h i (List.mem_range.2 hlt)
  rw [ho] at h1
  simp only [Option.map_some, Option.getD_some, Array.all_eq_true_iff_forall_mem, Bool.or_eq_true, Bool.not_eq_true', decide_eq_true_eq] at h1
  rcases h1 e he with h2 | h2
  · rw [hb] at h2; cases h2
  · exact h2
theorem of_mem_predsOf {o : Oper} {p : Nat} (h : p ∈ predsOf o) : ∃ e ∈ o.after, Region.binds .any e = true ∧ e.on = p := by
  unfold predsOf at h
  rw [List.mem_filterMap] at h
  obtain ⟨e, he, h2⟩ := h
  split at h2
  · rename_i hb
    exact ⟨e, by simpa using he, hb, by simpa using h2⟩
  · cases h2
/-- What is known of a head: each operation's relation, that it looks at no other's value, that it stays, and its step. -/
structure HeadOK (P : Program) (ops : Array Oper) (F : List Nat) (C : World → Prop) (T : World → World → Prop) (hd : List Oper) (a0 : Act) (Rs : List RelU) : Prop where
  len : Rs.length = hd.length
  loc : ∀ j o, hd[j]? = some o → ∀ U w, (Rs.getD j fun _ _ => True) U w = (Rs.getD j fun _ _ => True) (maskU (j :: predsOf o) U) w
  stay : ∀ j U w w', C w → T w w' → (Rs.getD j fun _ _ => True) U w → (Rs.getD j fun _ _ => True) U w'
  step : ∀ j o, hd[j]? = some o → ∀ U w, C w → HypsU Rs U w (predsOf o) → wpList P ops (InvPost T a0.defers w o.dst fun v w' => (Rs.getD j fun _ _ => True) (updU U j v) w' ∧ (F.contains j = true → FreshV v w w')) [o] (fillPuts hd U 0 a0) w
theorem hypsU_append {Rs : List RelU} {more : List RelU} {U : Nat → Value} {w : World} : ∀ (ps : List Nat), (∀ p ∈ ps, p < Rs.length) → HypsU (Rs ++ more) U w ps → HypsU Rs U w ps
  | [], _, _ => trivial
  | p :: ps, hl, h => by
    refine ⟨?_, hypsU_append ps (fun q hq => hl q (by simp [hq])) h.2⟩
    have := h.1
    rwa [List.getD_eq_getElem?_getD, List.getElem?_append_left (hl p (by simp)), ← List.getD_eq_getElem?_getD] at this
theorem wpInv_ok {F : List Nat} {C : World → Prop} {T : World → World → Prop} {hd : List Oper} {a0 : Act} {fin : (Nat → Value) → World → Prop}
    (hback : ∀ j o, hd[j]? = some o → ∀ p ∈ predsOf o, p < j) :
    ∀ (rest : List Oper) (i : Nat) (Rs : List RelU), Rs.length = i → hd.drop i = rest → i ≤ hd.length →
      (∀ j o, j < i → hd[j]? = some o → ∀ U w, (Rs.getD j fun _ _ => True) U w = (Rs.getD j fun _ _ => True) (maskU (j :: predsOf o) U) w) →
      (∀ j U w w', j < i → C w → T w w' → (Rs.getD j fun _ _ => True) U w → (Rs.getD j fun _ _ => True) U w') →
      (∀ j o, j < i → hd[j]? = some o → ∀ U w, C w → HypsU Rs U w (predsOf o) → wpList P ops (InvPost T a0.defers w o.dst fun v w' => (Rs.getD j fun _ _ => True) (updU U j v) w' ∧ (F.contains j = true → FreshV v w w')) [o] (fillPuts hd U 0 a0) w) →
      wpInv P ops F C T hd a0 fin i Rs rest → ∃ Rs', HeadOK P ops F C T hd a0 Rs' ∧ ∀ U w, C w → AllU U w Rs' → ApartF F U → fin U w
  | [], i, Rs, hl, hdrop, hle, h1, h2, h3, h => by
    have hi : hd.length = i := by
      have := congrArg List.length hdrop
      simp at this
      omega
    refine ⟨Rs, ⟨by omega, fun j o hj => h1 j o (by rw [← hi]; exact (List.getElem?_eq_some_iff.1 hj).1) hj, fun j U w w' => ?_, fun j o hj => h3 j o (by rw [← hi]; exact (List.getElem?_eq_some_iff.1 hj).1) hj⟩, h⟩
    by_cases hj : j < i
    · exact h2 j U w w' hj
    · intro _ _ _
      rw [List.getD_eq_getElem?_getD, List.getElem?_eq_none (by omega)]
      trivial
  | o :: rest, i, Rs, hl, hdrop, hle, h1, h2, h3, h => by
    obtain ⟨r, ha, hb, hc, hn⟩ := h
    have hoi : hd[i]? = some o := by
      have := congrArg (fun l => l[0]?) hdrop
      simpa using this
    have hlt : i < hd.length := (List.getElem?_eq_some_iff.1 hoi).1
    have gl : ∀ j, j < i → (Rs ++ [r]).getD j (fun _ _ => True) = Rs.getD j (fun _ _ => True) := fun j hj => by
      rw [List.getD_eq_getElem?_getD, List.getElem?_append_left (by omega), ← List.getD_eq_getElem?_getD]
    have gi : (Rs ++ [r]).getD i (fun _ _ => True) = r := by
      rw [List.getD_eq_getElem?_getD, List.getElem?_append_right (by omega)]
      simp [hl]
    refine wpInv_ok hback rest (i + 1) (Rs ++ [r]) (by simp [hl]) ?_ (by omega) ?_ ?_ ?_ hn
    · rw [← List.drop_drop, hdrop]; rfl
    · intro j p hj hp U w
      by_cases e : j = i
      · subst e
        rw [gi]
        obtain rfl : p = o := Option.some.inj (hp.symm.trans hoi)
        exact ha U w
      · rw [gl j (by omega)]; exact h1 j p (by omega) hp U w
    · intro j U w w' hj
      by_cases e : j = i
      · subst e; rw [gi]; exact hb U w w'
      · rw [gl j (by omega)]; exact h2 j U w w' (by omega)
    · intro j p hj hp U w hC hH
      have hp' : ∀ q ∈ predsOf p, q < Rs.length := fun q hq => by have := hback j p hp q hq; omega
      have hH' := hypsU_append (predsOf p) hp' hH
      by_cases e : j = i
      · subst e
        rw [gi]
        obtain rfl : p = o := Option.some.inj (hp.symm.trans hoi)
        exact hc U w hC hH'
      · rw [gl j (by omega)]
        exact h3 j p (by omega) hp U w hC hH'
theorem hypsU_of {Rs : List RelU} {U : Nat → Value} {w : World} : ∀ (ps : List Nat), (∀ p ∈ ps, (Rs.getD p fun _ _ => True) U w) → HypsU Rs U w ps
  | [], _ => trivial
  | p :: ps, h => ⟨h p (by simp), hypsU_of ps fun q hq => h q (by simp [hq])⟩
theorem allU_of {U : Nat → Value} {w : World} : ∀ (Rs : List RelU), (∀ j, j < Rs.length → (Rs.getD j fun _ _ => True) U w) → AllU U w Rs
  | [], _ => trivial
  | r :: rs, h => ⟨by simpa using h 0 (by simp), allU_of rs fun j hj => by simpa using h (j + 1) (by simpa using hj)⟩
theorem wpAny_of_inv {F : List Nat} {C : World → Prop} {T : World → World → Prop} {n : Nat} {a0 : Act} {Rs : List RelU} {Q : Exit → Act → World → Prop} {l : List Oper} (hops : ops = l.toArray) (hB : invB ops n = true)
    (hCT : ∀ w w', C w → T w w' → C w') (hTs : ∀ w w', T w w' → w.heap.size ≤ w'.heap.size) (hFn : F.all (fun i => decide (i < n)) = true) (hOK : HeadOK P ops F C T (l.take n) a0 Rs)
    (hfin : ∀ U w, C w → AllU U w Rs → ApartF F U → wpList P ops Q (l.drop n) (fillPuts (l.take n) U 0 a0) w) :
    ∀ (f : Nat) (L : List Nat) (listed : Array Bool) (U : Nat → Value) (w : World), L.Nodup → L.length = f → (∀ j, j ∈ L ↔ j < n ∧ listed.getD j true = false) → HeadInv .any ops n listed → C w →
      (∀ j, j < n → listed.getD j false = true → (Rs.getD j fun _ _ => True) U w) → (∀ j, F.contains j = true → listed.getD j false = true → ∃ p, blkOf (U j) = some p ∧ p < w.heap.size) →
      (∀ i j, F.contains i = true → F.contains j = true → i ≠ j → listed.getD i false = true → listed.getD j false = true → blkOf (U i) ≠ blkOf (U j)) → wpAny P .any ops Q (f + (ops.size - n)) listed (fillPuts (l.take n) U 0 a0) w := by
  simp only [invB, Bool.and_eq_true, decide_eq_true_eq] at hB
  obtain ⟨⟨⟨⟨⟨hn, hs⟩, hc⟩, hback⟩, hdist⟩, hseq⟩ := hB
  have hlen : (l.take n).length = n := by subst hops; simp at hn ⊢; omega
  have hdl : (l.drop n).length = ops.size - n := by subst hops; simp
  intro f
  induction f with
  | zero =>
    intro L listed U w hnd hL hmem inv hC hR hFb hFd
    have hL0 : L = [] := List.length_eq_zero_iff.1 hL
    subst hL0
    have hall : ∀ j, j < n → listed.getD j true = true := fun j hj => by
      cases h : listed.getD j true with
      | true => rfl
      | false => exact absurd ((hmem j).2 ⟨hj, h⟩) (by simp)
    have hlisted : listed = ((List.range ops.size).map fun i => decide (i < n)).toArray := by
      apply Array.ext
      · simp [inv.size]
      · intro i h1 h2
        simp only [List.getElem_toArray, List.getElem_map, List.getElem_range]
        by_cases hi : i < n
        · have := hall i hi
          simp [h1] at this
          simp [this, hi]
        · have := inv.tail i (by omega) (by rw [← inv.size]; exact h1)
          simp [h1] at this
          simp [this, hi]
    rw [Nat.zero_add, ← hdl]
    refine wpAny_of_seq (l.drop n) n listed _ w (fun j => by subst hops; simp [List.getElem?_drop]) (by rw [hdl, hlisted]; exact hseq) ?_
    have hallf : ∀ j, j < n → listed.getD j false = true := fun j hjn => by
      have := hall j hjn
      have hjs : j < listed.size := by rw [inv.size]; omega
      simp [hjs] at this ⊢
      exact this
    have hFn' : ∀ j, F.contains j = true → j < n := fun j hj => by
      have := List.all_eq_true.1 hFn j (List.contains_iff_mem.1 hj)
      simpa using this
    refine hfin U w hC (allU_of Rs fun j hj => hR j (by rw [hOK.len, hlen] at hj; exact hj) (hallf j (by rw [hOK.len, hlen] at hj; exact hj))) (fun i j hi hj hij => hFd i j hi hj hij (hallf i (hFn' i hi)) (hallf j (hFn' j hj)))
  | succ f ih =>
    intro L listed U w hnd hL hmem inv hC hR hFb hFd
    have hne : L ≠ [] := fun h => by subst h; simp at hL
    obtain ⟨i0, hi0⟩ := List.exists_mem_of_ne_nil L hne
    obtain ⟨hi0n, hi0u⟩ := (hmem i0).1 hi0
    -- the least one that is not listed may come up
    have hready : Region.ready .any ops listed ≠ [] := by
      have key : ∀ (d i : Nat), i ≤ d → i < n → listed.getD i true = false → Region.ready .any ops listed ≠ [] := by
        intro d
        induction d with
        | zero =>
          intro i hid hin hiu
          have hi : i = 0 := by omega
          subst hi
          have hlt : 0 < ops.size := by omega
          intro h
          have : 0 ∈ Region.ready .any ops listed := mem_ready.2 ⟨hiu, ops[0], by simp [hlt], fun e he hb => absurd (backB_spec hback (i := 0) (by simp [hlt]) e he hb) (by omega)⟩
          rw [h] at this; cases this
        | succ d ihd =>
          intro i hid hin hiu
          have hlt : i < ops.size := by omega
          by_cases hex : ∃ e ∈ ops[i].after, Region.binds .any e = true ∧ listed.getD e.on false = false
          · obtain ⟨e, he, hb, hu⟩ := hex
            have hlt2 := backB_spec hback (i := i) (by simp [hlt]) e he hb
            exact ihd e.on (by omega) (by omega) (getD_in (by rw [inv.size]; omega) hu)
          · intro h
            have : i ∈ Region.ready .any ops listed := mem_ready.2 ⟨hiu, ops[i], by simp [hlt], fun e he hb => by
              cases h' : listed.getD e.on false with
              | true => rfl
              | false => exact absurd ⟨e, he, hb, h'⟩ hex⟩
            rw [h] at this; cases this
      exact key i0 i0 (Nat.le_refl _) hi0n hi0u
    rw [show f + 1 + (ops.size - n) = (f + (ops.size - n)) + 1 by omega]
    refine ⟨fun h => absurd h hready, fun i hi => ?_⟩
    obtain ⟨hiu, o, ho, hall⟩ := mem_ready.1 hi
    have hin : i < n := by
      rcases Nat.lt_or_ge i n with h | h
      · exact h
      · exact absurd hi (tail_waits hs hc hn inv _ i0 rfl hi0n hi0u i h)
    have hio : (l.take n)[i]? = some o := by
      subst hops
      rw [List.getElem?_take_of_lt hin]
      simpa using ho
    have hp : ∀ p ∈ predsOf o, p < n ∧ listed.getD p false = true := fun p hp => by
      obtain ⟨e, he, hb, rfl⟩ := of_mem_predsOf hp
      have := backB_spec hback ho e he hb
      exact ⟨by omega, hall e he hb⟩
    have hstep := hOK.step i o hio U w hC (hypsU_of _ fun p hpp => hR p (hp p hpp).1 (hp p hpp).2)
    refine wpOp_of_list_inv ho (fillPuts_defers _ _ _ _) (fun v w' hT hG => ?_) hstep
    have hC' := hCT w w' hC hT
    rw [← put_slot, fillPuts_put (l.take n) U 0 i o _ a0 (by subst hops; simpa using hdist) hio, Nat.zero_add]
    refine ih (L.erase i) (listed.setIfInBounds i true) _ w' (hnd.erase i) (by rw [List.length_erase_of_mem ((hmem i).2 ⟨hin, hiu⟩), hL]; rfl) (fun j => ?_) (inv.set hi hin) hC' (fun j hj hjl => ?_) ?_ ?_
    · rw [hnd.mem_erase_iff, hmem j]
      by_cases e : i = j
      · subst e
        constructor
        · rintro ⟨h, _⟩; exact absurd rfl h
        · rintro ⟨_, h⟩
          have hsz : i < listed.size := by rw [inv.size]; omega
          simp [hsz] at h
      · rw [getD_set_ne true e]
        constructor
        · rintro ⟨_, h⟩; exact h
        · intro h; exact ⟨fun h' => e h'.symm, h⟩
    · by_cases e : i = j
      · subst e; exact hG.1
      · rw [getD_set_ne false e] at hjl
        have hj1 := hOK.stay j U w w' hC hT (hR j hj hjl)
        have hjs : j < ops.size := by omega
        obtain ⟨oj, hoj⟩ : ∃ oj, ops[j]? = some oj := ⟨ops[j], by simp [hjs]⟩
        have hjo : (l.take n)[j]? = some oj := by
          subst hops
          rw [List.getElem?_take_of_lt hj]
          simpa using hoj
        have hni : (j :: predsOf oj).contains i = false := by
          rw [Bool.eq_false_iff]
          intro h
          rcases List.mem_cons.1 (List.contains_iff_mem.1 h) with h | h
          · exact e h
          · obtain ⟨e', he', hb', rfl⟩ := of_mem_predsOf h
            have := inv.closed j oj hoj hjl e' he' hb'
            rw [getD_both hiu] at this
            cases this
        rw [hOK.loc j oj hjo, maskU_upd hni, ← hOK.loc j oj hjo]
        exact hj1
    · intro j hj hjl
      by_cases e : i = j
      · subst e
        obtain ⟨p, hp1, _, hp2⟩ := hG.2 hj
        exact ⟨p, by rw [updU_eq]; exact hp1, hp2⟩
      · rw [getD_set_ne false e] at hjl
        obtain ⟨p, hp1, hp2⟩ := hFb j hj hjl
        refine ⟨p, ?_, Nat.lt_of_lt_of_le hp2 (hTs _ _ hT)⟩
        have : updU U i (slotOf (fillPuts (l.take n) U 0 a0 |>.put o.dst v) o.dst) j = U j := by unfold updU; rw [if_neg (fun h => e h.symm)]
        rw [this]; exact hp1
    · intro j k hj hk hjk hjl hkl
      have old : ∀ q, i ≠ q → updU U i (slotOf (fillPuts (l.take n) U 0 a0 |>.put o.dst v) o.dst) q = U q := fun q e => by unfold updU; rw [if_neg (fun h => e h.symm)]
      by_cases e : i = j
      · subst e
        have e2 : i ≠ k := hjk
        rw [getD_set_ne false e2] at hkl
        obtain ⟨p, hp1, hp2, _⟩ := hG.2 hj
        obtain ⟨q, hq1, hq2⟩ := hFb k hk hkl
        rw [updU_eq, old k e2, hp1, hq1]
        intro h
        have := Option.some.inj h
        omega
      · rw [getD_set_ne false e] at hjl
        by_cases e2 : i = k
        · subst e2
          obtain ⟨p, hp1, hp2, _⟩ := hG.2 hk
          obtain ⟨q, hq1, hq2⟩ := hFb j hj hjl
          rw [updU_eq, old j e, hp1, hq1]
          intro h
          have := Option.some.inj h
          omega
        · rw [getD_set_ne false e2] at hkl
          rw [old j e, old k e2]
          exact hFd j k hj hk hjk hjl hkl
/-- An operation whose value hangs on the values ahead of it alone. -/
theorem wpInv_det {F : List Nat} {C : World → Prop} {T : World → World → Prop} {hd : List Oper} {a0 : Act} {fin : (Nat → Value) → World → Prop} {i : Nat} {Rs : List RelU} {o : Oper} {rest : List Oper} (hp : (predsOf o).contains i = false) (hF : F.contains i = false)
    (h : ∃ f : (Nat → Value) → Value, (∀ U w, C w → HypsU Rs U w (predsOf o) → wpList P ops (InvPost T a0.defers w o.dst fun v _ => v = f U) [o] (fillPuts hd U 0 a0) w) ∧
      (∀ U, f U = f (maskU (predsOf o) U)) ∧ wpInv P ops F C T hd a0 fin (i + 1) (Rs ++ [fun U _ => U i = f U]) rest) : wpInv P ops F C T hd a0 fin i Rs (o :: rest) := by
  obtain ⟨f, h1, h2, h3⟩ := h
  have e1 : ∀ U, maskU (predsOf o) (maskU (i :: predsOf o) U) = maskU (predsOf o) U := fun U => by
    funext j
    unfold maskU
    by_cases hj : (predsOf o).contains j = true
    · rw [if_pos hj, if_pos hj, if_pos (by simp at hj ⊢; exact .inr hj)]
    · rw [if_neg hj, if_neg hj]
  refine ⟨fun U _ => U i = f U, fun U w => ?_, fun _ _ _ _ _ h => h, fun U w hC hH => ?_, h3⟩
  · have e2 : maskU (i :: predsOf o) U i = U i := by unfold maskU; rw [if_pos (by simp)]
    have e3 : f (maskU (i :: predsOf o) U) = f U := by rw [h2, e1, ← h2]
    show (U i = f U) = (maskU (i :: predsOf o) U i = f (maskU (i :: predsOf o) U))
    rw [e2, e3]
  · refine wpList_post (fun a' w' hq => ?_) (h1 U w hC hH)
    refine ⟨hq.1, hq.2.1, hq.2.2.1, ?_, fun h => by rw [hF] at h; cases h⟩
    have hq4 := hq.2.2.2
    show updU U i (slotOf a' o.dst) i = f (updU U i (slotOf a' o.dst))
    rw [updU_eq, hq4, h2 (updU U i (f U)), maskU_upd hp, ← h2]
/-- What stands in the slots at the beginning. -/
theorem fillPuts_start : ∀ (l : List Oper) (i : Nat) (a : Act), ∃ U, fillPuts l U i a = a
  | [], _, a => ⟨fun _ => undef, rfl⟩
  | o :: l, i, a => by
    obtain ⟨U, hU⟩ := fillPuts_start l (i + 1) a
    refine ⟨updU U i (slotOf a o.dst), ?_⟩
    simp only [fillPuts, updU_eq]
    rw [fillPuts_upd_lt l U i (i + 1) _ _ (by omega)]
    have : a.put o.dst (slotOf a o.dst) = a := by
      unfold Act.put slotOf
      cases o.dst with
      | none => rfl
      | some d =>
        simp only
        by_cases h : d < a.tmps.size
        · obtain ⟨tm, df⟩ := a
          congr 1
          apply Array.ext
          · simp
          · intro k h1 h2
            rw [Array.getElem_setIfInBounds]
            split
            · rename_i e; subst e; simp
            · rfl
        · rw [Array.setIfInBounds_eq_of_size_le (Nat.le_of_not_lt h)]
    rw [this]
    exact hU
theorem wp_region_inv {id : Nat} {Q : Exit → Act → World → Prop} {a : Act} {w : World} {l : List Oper} (F : List Nat) (C : World → Prop) (T : World → World → Prop) (n : Nat) (hm : P.follows .mixedOrders = true) (hB : invB l.toArray n = true)
    (hFn : F.all (fun i => decide (i < n)) = true) (hC : C w.drew) (hCT : ∀ w w', C w → T w w' → C w') (hTs : ∀ w w', T w w' → w.heap.size ≤ w'.heap.size)
    (h : wpInv P l.toArray F C T (l.take n) a (fun U w => wpList P l.toArray Q (l.drop n) (fillPuts (l.take n) U 0 a) w) 0 [] (l.take n)) : (Code.region id l.toArray true).wp P Q a w := by
  refine wp_region_any hm ?_
  have hB' := hB
  simp only [invB, Bool.and_eq_true, decide_eq_true_eq] at hB'
  obtain ⟨⟨⟨⟨⟨hn, hs⟩, hc⟩, hback⟩, hdist⟩, hseq⟩ := hB'
  have hn' : n < l.length := by simpa using hn
  obtain ⟨Rs, hOK, hfin⟩ := wpInv_ok (P := P) (hd := l.take n) (fun j o hj p hp => by
    obtain ⟨e, he, hb, rfl⟩ := of_mem_predsOf hp
    have hjn : j < n := by have := (List.getElem?_eq_some_iff.1 hj).1; simp at this; omega
    rw [List.getElem?_take_of_lt hjn] at hj
    exact backB_spec hback (i := j) (by simpa using hj) e he hb) (l.take n) 0 [] rfl rfl (by omega) (fun j o hj => absurd hj (by omega)) (fun j U w w' hj => absurd hj (by omega)) (fun j o hj => absurd hj (by omega)) h
  obtain ⟨U, hU⟩ := fillPuts_start (l.take n) 0 a
  have := wpAny_of_inv (P := P) (Q := Q) rfl hB hCT hTs hFn hOK hfin n (List.range n) (Array.replicate l.toArray.size false) U { w with drawn := w.drawn + 1 } List.nodup_range (by simp) (fun j => by
      rw [List.mem_range]
      constructor
      · intro hj
        exact ⟨hj, getD_in (by simp; omega) (getD_replicate_false _ _)⟩
      · exact fun h => h.1)
    ⟨by simp, fun j oj _ hl => (by rw [getD_replicate_false] at hl; cases hl), fun t _ ht => getD_in (by simpa using ht) (getD_replicate_false _ _)⟩ hC (fun j _ hl => by rw [getD_replicate_false] at hl; cases hl) (fun j _ hl => by rw [getD_replicate_false] at hl; cases hl) (fun i j _ _ _ hl => by rw [getD_replicate_false] at hl; cases hl)
  rw [hU] at this
  have e : n + (l.toArray.size - n) = l.toArray.size := by omega
  rwa [e] at this
end
end Go
end

section
namespace Go.RI
open Go Go.RowKit
section
variable {P : Program} {ops : Array Oper}
/-- The walk: for each operation of the head what holds of its value. -/
def wpInv (P : Program) (ops : Array Oper) (F : List Nat) (C : (Nat → Bool) → World → Prop) (T : Nat → World → World → Prop) (hd : List Oper) (a0 : Act) (fin : (Nat → Value) → World → Prop) : Nat → List RelU → List Oper → Prop
  | i, Rs, [] => ∀ D U w, (∀ k, k < i → D k = true) → C D w → AllU U w Rs → ApartF F U → fin U w
  | i, Rs, o :: rest => ∃ r : RelU, (∀ U w, r U w = r (maskU (i :: predsOf o) U) w) ∧ (∀ k D U w w', k ≠ i → D k = false → C D w → T k w w' → r U w → r U w') ∧
      (∀ D U w, D i = false → C D w → HypsU Rs U w (predsOf o) → wpList P ops (InvPost (T i) a0.defers w o.dst fun v w' => r (updU U i v) w' ∧ (F.contains i = true → FreshV v w w')) [o] (fillPuts hd U 0 a0) w) ∧
      wpInv P ops F C T hd a0 fin (i + 1) (Rs ++ [r]) rest
/-- What is known of a head: each operation's relation, that it looks at no other's value, that it stays, and its step. -/
structure HeadOK (P : Program) (ops : Array Oper) (F : List Nat) (C : (Nat → Bool) → World → Prop) (T : Nat → World → World → Prop) (hd : List Oper) (a0 : Act) (Rs : List RelU) : Prop where
  len : Rs.length = hd.length
  loc : ∀ j o, hd[j]? = some o → ∀ U w, (Rs.getD j fun _ _ => True) U w = (Rs.getD j fun _ _ => True) (maskU (j :: predsOf o) U) w
  stay : ∀ k j D U w w', k ≠ j → D k = false → C D w → T k w w' → (Rs.getD j fun _ _ => True) U w → (Rs.getD j fun _ _ => True) U w'
  step : ∀ j o, hd[j]? = some o → ∀ D U w, D j = false → C D w → HypsU Rs U w (predsOf o) → wpList P ops (InvPost (T j) a0.defers w o.dst fun v w' => (Rs.getD j fun _ _ => True) (updU U j v) w' ∧ (F.contains j = true → FreshV v w w')) [o] (fillPuts hd U 0 a0) w
theorem wpInv_ok {F : List Nat} {C : (Nat → Bool) → World → Prop} {T : Nat → World → World → Prop} {hd : List Oper} {a0 : Act} {fin : (Nat → Value) → World → Prop}
    (hback : ∀ j o, hd[j]? = some o → ∀ p ∈ predsOf o, p < j) :
    ∀ (rest : List Oper) (i : Nat) (Rs : List RelU), Rs.length = i → hd.drop i = rest → i ≤ hd.length →
      (∀ j o, j < i → hd[j]? = some o → ∀ U w, (Rs.getD j fun _ _ => True) U w = (Rs.getD j fun _ _ => True) (maskU (j :: predsOf o) U) w) →
      (∀ k j D U w w', j < i → k ≠ j → D k = false → C D w → T k w w' → (Rs.getD j fun _ _ => True) U w → (Rs.getD j fun _ _ => True) U w') →
      (∀ j o, j < i → hd[j]? = some o → ∀ D U w, D j = false → C D w → HypsU Rs U w (predsOf o) → wpList P ops (InvPost (T j) a0.defers w o.dst fun v w' => (Rs.getD j fun _ _ => True) (updU U j v) w' ∧ (F.contains j = true → FreshV v w w')) [o] (fillPuts hd U 0 a0) w) →
      wpInv P ops F C T hd a0 fin i Rs rest → ∃ Rs', HeadOK P ops F C T hd a0 Rs' ∧ ∀ D U w, (∀ k, k < hd.length → D k = true) → C D w → AllU U w Rs' → ApartF F U → fin U w
  | [], i, Rs, hl, hdrop, hle, h1, h2, h3, h => by
    have hi : hd.length = i := by
      have := congrArg List.length hdrop
      simp at this
      omega
    refine ⟨Rs, ⟨by omega, fun j o hj => h1 j o (by rw [← hi]; exact (List.getElem?_eq_some_iff.1 hj).1) hj, fun k j D U w w' => ?_, fun j o hj => h3 j o (by rw [← hi]; exact (List.getElem?_eq_some_iff.1 hj).1) hj⟩, fun D U w hD => h D U w (fun k hk => hD k (by omega))⟩
    by_cases hj : j < i
    · exact h2 k j D U w w' hj
    · intro _ _ _ _ _
      rw [List.getD_eq_getElem?_getD, List.getElem?_eq_none (by omega)]
      trivial
  | o :: rest, i, Rs, hl, hdrop, hle, h1, h2, h3, h => by
    obtain ⟨r, ha, hb, hc, hn⟩ := h
    have hoi : hd[i]? = some o := by
      have := congrArg (fun l => l[0]?) hdrop
      simpa using this
    have hlt : i < hd.length := (List.getElem?_eq_some_iff.1 hoi).1
    have gl : ∀ j, j < i → (Rs ++ [r]).getD j (fun _ _ => True) = Rs.getD j (fun _ _ => True) := fun j hj => by
      rw [List.getD_eq_getElem?_getD, List.getElem?_append_left (by omega), ← List.getD_eq_getElem?_getD]
    have gi : (Rs ++ [r]).getD i (fun _ _ => True) = r := by
      rw [List.getD_eq_getElem?_getD, List.getElem?_append_right (by omega)]
      simp [hl]
    refine wpInv_ok hback rest (i + 1) (Rs ++ [r]) (by simp [hl]) ?_ (by omega) ?_ ?_ ?_ hn
    · rw [← List.drop_drop, hdrop]; rfl
    · intro j p hj hp U w
      by_cases e : j = i
      · subst e
        rw [gi]
        obtain rfl : p = o := Option.some.inj (hp.symm.trans hoi)
        exact ha U w
      · rw [gl j (by omega)]; exact h1 j p (by omega) hp U w
    · intro k j D U w w' hj
      by_cases e : j = i
      · subst e; rw [gi]; exact hb k D U w w'
      · rw [gl j (by omega)]; exact h2 k j D U w w' (by omega)
    · intro j p hj hp D U w hDj hC hH
      have hp' : ∀ q ∈ predsOf p, q < Rs.length := fun q hq => by have := hback j p hp q hq; omega
      have hH' := hypsU_append (predsOf p) hp' hH
      by_cases e : j = i
      · subst e
        rw [gi]
        obtain rfl : p = o := Option.some.inj (hp.symm.trans hoi)
        exact hc D U w hDj hC hH'
      · rw [gl j (by omega)]
        exact h3 j p (by omega) hp D U w hDj hC hH'
theorem wpAny_of_inv {F : List Nat} {C : (Nat → Bool) → World → Prop} {T : Nat → World → World → Prop} {n : Nat} {a0 : Act} {Rs : List RelU} {Q : Exit → Act → World → Prop} {l : List Oper} (hops : ops = l.toArray) (hB : invB ops n = true)
    (hCT : ∀ k D w w', D k = false → C D w → T k w w' → C (fun j => if j = k then true else D j) w') (hTs : ∀ k w w', T k w w' → w.heap.size ≤ w'.heap.size) (hFn : F.all (fun i => decide (i < n)) = true) (hOK : HeadOK P ops F C T (l.take n) a0 Rs)
    (hfin : ∀ D U w, (∀ k, k < n → D k = true) → C D w → AllU U w Rs → ApartF F U → wpList P ops Q (l.drop n) (fillPuts (l.take n) U 0 a0) w) :
    ∀ (f : Nat) (L : List Nat) (listed : Array Bool) (U : Nat → Value) (w : World), L.Nodup → L.length = f → (∀ j, j ∈ L ↔ j < n ∧ listed.getD j true = false) → HeadInv .any ops n listed → C (fun k => listed.getD k false) w →
      (∀ j, j < n → listed.getD j false = true → (Rs.getD j fun _ _ => True) U w) → (∀ j, F.contains j = true → listed.getD j false = true → ∃ p, blkOf (U j) = some p ∧ p < w.heap.size) →
      (∀ i j, F.contains i = true → F.contains j = true → i ≠ j → listed.getD i false = true → listed.getD j false = true → blkOf (U i) ≠ blkOf (U j)) → wpAny P .any ops Q (f + (ops.size - n)) listed (fillPuts (l.take n) U 0 a0) w := by
  simp only [invB, Bool.and_eq_true, decide_eq_true_eq] at hB
  obtain ⟨⟨⟨⟨⟨hn, hs⟩, hc⟩, hback⟩, hdist⟩, hseq⟩ := hB
  have hlen : (l.take n).length = n := by subst hops; simp at hn ⊢; omega
  have hdl : (l.drop n).length = ops.size - n := by subst hops; simp
  intro f
  induction f with
  | zero =>
    intro L listed U w hnd hL hmem inv hC hR hFb hFd
    have hL0 : L = [] := List.length_eq_zero_iff.1 hL
    subst hL0
    have hall : ∀ j, j < n → listed.getD j true = true := fun j hj => by
      cases h : listed.getD j true with
      | true => rfl
      | false => exact absurd ((hmem j).2 ⟨hj, h⟩) (by simp)
    have hlisted : listed = ((List.range ops.size).map fun i => decide (i < n)).toArray := by
      apply Array.ext
      · simp [inv.size]
      · intro i h1 h2
        simp only [List.getElem_toArray, List.getElem_map, List.getElem_range]
        by_cases hi : i < n
        · have := hall i hi
          simp [h1] at this
          simp [this, hi]
        · have := inv.tail i (by omega) (by rw [← inv.size]; exact h1)
          simp [h1] at this
          simp [this, hi]
    rw [Nat.zero_add, ← hdl]
    refine wpAny_of_seq (l.drop n) n listed _ w (fun j => by subst hops; simp [List.getElem?_drop]) (by rw [hdl, hlisted]; exact hseq) ?_
    have hallf : ∀ j, j < n → listed.getD j false = true := fun j hjn => by
      have := hall j hjn
      have hjs : j < listed.size := by rw [inv.size]; omega
      simp [hjs] at this ⊢
      exact this
    have hFn' : ∀ j, F.contains j = true → j < n := fun j hj => by
      have := List.all_eq_true.1 hFn j (List.contains_iff_mem.1 hj)
      simpa using this
    refine hfin _ U w hallf hC (allU_of Rs fun j hj => hR j (by rw [hOK.len, hlen] at hj; exact hj) (hallf j (by rw [hOK.len, hlen] at hj; exact hj))) (fun i j hi hj hij => hFd i j hi hj hij (hallf i (hFn' i hi)) (hallf j (hFn' j hj)))
  | succ f ih =>
    intro L listed U w hnd hL hmem inv hC hR hFb hFd
    have hne : L ≠ [] := fun h => by subst h; simp at hL
    obtain ⟨i0, hi0⟩ := List.exists_mem_of_ne_nil L hne
    obtain ⟨hi0n, hi0u⟩ := (hmem i0).1 hi0
    -- the least one that is not listed may come up
    have hready : Region.ready .any ops listed ≠ [] := by
      have key : ∀ (d i : Nat), i ≤ d → i < n → listed.getD i true = false → Region.ready .any ops listed ≠ [] := by
        intro d
        induction d with
        | zero =>
          intro i hid hin hiu
          have hi : i = 0 := by omega
          subst hi
          have hlt : 0 < ops.size := by omega
          intro h
          have : 0 ∈ Region.ready .any ops listed := mem_ready.2 ⟨hiu, ops[0], by simp [hlt], fun e he hb => absurd (backB_spec hback (i := 0) (by simp [hlt]) e he hb) (by omega)⟩
          rw [h] at this; cases this
        | succ d ihd =>
          intro i hid hin hiu
          have hlt : i < ops.size := by omega
          by_cases hex : ∃ e ∈ ops[i].after, Region.binds .any e = true ∧ listed.getD e.on false = false
          · obtain ⟨e, he, hb, hu⟩ := hex
            have hlt2 := backB_spec hback (i := i) (by simp [hlt]) e he hb
            exact ihd e.on (by omega) (by omega) (getD_in (by rw [inv.size]; omega) hu)
          · intro h
            have : i ∈ Region.ready .any ops listed := mem_ready.2 ⟨hiu, ops[i], by simp [hlt], fun e he hb => by
              cases h' : listed.getD e.on false with
              | true => rfl
              | false => exact absurd ⟨e, he, hb, h'⟩ hex⟩
            rw [h] at this; cases this
      exact key i0 i0 (Nat.le_refl _) hi0n hi0u
    rw [show f + 1 + (ops.size - n) = (f + (ops.size - n)) + 1 by omega]
    refine ⟨fun h => absurd h hready, fun i hi => ?_⟩
    obtain ⟨hiu, o, ho, hall⟩ := mem_ready.1 hi
    have hin : i < n := by
      rcases Nat.lt_or_ge i n with h | h
      · exact h
      · exact absurd hi (tail_waits hs hc hn inv _ i0 rfl hi0n hi0u i h)
    have hio : (l.take n)[i]? = some o := by
      subst hops
      rw [List.getElem?_take_of_lt hin]
      simpa using ho
    have hp : ∀ p ∈ predsOf o, p < n ∧ listed.getD p false = true := fun p hp => by
      obtain ⟨e, he, hb, rfl⟩ := of_mem_predsOf hp
      have := backB_spec hback ho e he hb
      exact ⟨by omega, hall e he hb⟩
    have hstep := hOK.step i o hio _ U w (getD_both hiu) hC (hypsU_of _ fun p hpp => hR p (hp p hpp).1 (hp p hpp).2)
    refine wpOp_of_list_inv ho (fillPuts_defers _ _ _ _) (fun v w' hT hG => ?_) hstep
    have hC' := hCT i _ w w' (getD_both hiu) hC hT
    have hDe : (fun j => if j = i then true else listed.getD j false) = fun k => (listed.setIfInBounds i true).getD k false := by
      funext j
      by_cases e : i = j
      · subst e
        have hsz : i < listed.size := by rw [inv.size]; omega
        simp [hsz]
      · rw [if_neg (fun h => e h.symm), getD_set_ne false e]
    rw [hDe] at hC'
    rw [← put_slot, fillPuts_put (l.take n) U 0 i o _ a0 (by subst hops; simpa using hdist) hio, Nat.zero_add]
    refine ih (L.erase i) (listed.setIfInBounds i true) _ w' (hnd.erase i) (by rw [List.length_erase_of_mem ((hmem i).2 ⟨hin, hiu⟩), hL]; rfl) (fun j => ?_) (inv.set hi hin) hC' (fun j hj hjl => ?_) ?_ ?_
    · rw [hnd.mem_erase_iff, hmem j]
      by_cases e : i = j
      · subst e
        constructor
        · rintro ⟨h, _⟩; exact absurd rfl h
        · rintro ⟨_, h⟩
          have hsz : i < listed.size := by rw [inv.size]; omega
          simp [hsz] at h
      · rw [getD_set_ne true e]
        constructor
        · rintro ⟨_, h⟩; exact h
        · intro h; exact ⟨fun h' => e h'.symm, h⟩
    · by_cases e : i = j
      · subst e; exact hG.1
      · rw [getD_set_ne false e] at hjl
        have hj1 := hOK.stay i j _ U w w' e (getD_both hiu) hC hT (hR j hj hjl)
        have hjs : j < ops.size := by omega
        obtain ⟨oj, hoj⟩ : ∃ oj, ops[j]? = some oj := ⟨ops[j], by simp [hjs]⟩
        have hjo : (l.take n)[j]? = some oj := by
          subst hops
          rw [List.getElem?_take_of_lt hj]
          simpa using hoj
        have hni : (j :: predsOf oj).contains i = false := by
          rw [Bool.eq_false_iff]
          intro h
          rcases List.mem_cons.1 (List.contains_iff_mem.1 h) with h | h
          · exact e h
          · obtain ⟨e', he', hb', rfl⟩ := of_mem_predsOf h
            have := inv.closed j oj hoj hjl e' he' hb'
            rw [getD_both hiu] at this
            cases this
        rw [hOK.loc j oj hjo, maskU_upd hni, ← hOK.loc j oj hjo]
        exact hj1
    · intro j hj hjl
      by_cases e : i = j
      · subst e
        obtain ⟨p, hp1, _, hp2⟩ := hG.2 hj
        exact ⟨p, by rw [updU_eq]; exact hp1, hp2⟩
      · rw [getD_set_ne false e] at hjl
        obtain ⟨p, hp1, hp2⟩ := hFb j hj hjl
        refine ⟨p, ?_, Nat.lt_of_lt_of_le hp2 (hTs _ _ _ hT)⟩
        have : updU U i (slotOf (fillPuts (l.take n) U 0 a0 |>.put o.dst v) o.dst) j = U j := by unfold updU; rw [if_neg (fun h => e h.symm)]
        rw [this]; exact hp1
    · intro j k hj hk hjk hjl hkl
      have old : ∀ q, i ≠ q → updU U i (slotOf (fillPuts (l.take n) U 0 a0 |>.put o.dst v) o.dst) q = U q := fun q e => by unfold updU; rw [if_neg (fun h => e h.symm)]
      by_cases e : i = j
      · subst e
        have e2 : i ≠ k := hjk
        rw [getD_set_ne false e2] at hkl
        obtain ⟨p, hp1, hp2, _⟩ := hG.2 hj
        obtain ⟨q, hq1, hq2⟩ := hFb k hk hkl
        rw [updU_eq, old k e2, hp1, hq1]
        intro h
        have := Option.some.inj h
        omega
      · rw [getD_set_ne false e] at hjl
        by_cases e2 : i = k
        · subst e2
          obtain ⟨p, hp1, hp2, _⟩ := hG.2 hk
          obtain ⟨q, hq1, hq2⟩ := hFb j hj hjl
          rw [updU_eq, old j e, hp1, hq1]
          intro h
          have := Option.some.inj h
          omega
        · rw [getD_set_ne false e2] at hkl
          rw [old j e, old k e2]
          exact hFd j k hj hk hjk hjl hkl
/-- An operation whose value hangs on the values ahead of it alone. -/
theorem wpInv_det {F : List Nat} {C : (Nat → Bool) → World → Prop} {T : Nat → World → World → Prop} {hd : List Oper} {a0 : Act} {fin : (Nat → Value) → World → Prop} {i : Nat} {Rs : List RelU} {o : Oper} {rest : List Oper} (hp : (predsOf o).contains i = false) (hF : F.contains i = false)
    (h : ∃ f : (Nat → Value) → Value, (∀ D U w, D i = false → C D w → HypsU Rs U w (predsOf o) → wpList P ops (InvPost (T i) a0.defers w o.dst fun v _ => v = f U) [o] (fillPuts hd U 0 a0) w) ∧
      (∀ U, f U = f (maskU (predsOf o) U)) ∧ wpInv P ops F C T hd a0 fin (i + 1) (Rs ++ [fun U _ => U i = f U]) rest) : wpInv P ops F C T hd a0 fin i Rs (o :: rest) := by
  obtain ⟨f, h1, h2, h3⟩ := h
  have e1 : ∀ U, maskU (predsOf o) (maskU (i :: predsOf o) U) = maskU (predsOf o) U := fun U => by
    funext j
    unfold maskU
    by_cases hj : (predsOf o).contains j = true
    · rw [if_pos hj, if_pos hj, if_pos (by simp at hj ⊢; exact .inr hj)]
    · rw [if_neg hj, if_neg hj]
  refine ⟨fun U _ => U i = f U, fun U w => ?_, fun _ _ _ _ _ _ _ _ _ h => h, fun D U w hDi hC hH => ?_, h3⟩
  · have e2 : maskU (i :: predsOf o) U i = U i := by unfold maskU; rw [if_pos (by simp)]
    have e3 : f (maskU (i :: predsOf o) U) = f U := by rw [h2, e1, ← h2]
    show (U i = f U) = (maskU (i :: predsOf o) U i = f (maskU (i :: predsOf o) U))
    rw [e2, e3]
  · refine wpList_post (T := T i) (fun a' w' hq => ?_) (h1 D U w hDi hC hH)
    refine ⟨hq.1, hq.2.1, hq.2.2.1, ?_, fun h => by rw [hF] at h; cases h⟩
    have hq4 := hq.2.2.2
    show updU U i (slotOf a' o.dst) i = f (updU U i (slotOf a' o.dst))
    rw [updU_eq, hq4, h2 (updU U i (f U)), maskU_upd hp, ← h2]
theorem wp_region_inv {id : Nat} {Q : Exit → Act → World → Prop} {a : Act} {w : World} {l : List Oper} (F : List Nat) (C : (Nat → Bool) → World → Prop) (T : Nat → World → World → Prop) (n : Nat) (hm : P.follows .mixedOrders = true) (hB : invB l.toArray n = true)
    (hFn : F.all (fun i => decide (i < n)) = true) (hC : C (fun _ => false) w.drew) (hCT : ∀ k D w w', D k = false → C D w → T k w w' → C (fun j => if j = k then true else D j) w') (hTs : ∀ k w w', T k w w' → w.heap.size ≤ w'.heap.size)
    (h : wpInv P l.toArray F C T (l.take n) a (fun U w => wpList P l.toArray Q (l.drop n) (fillPuts (l.take n) U 0 a) w) 0 [] (l.take n)) : (Code.region id l.toArray true).wp P Q a w := by
  refine wp_region_any hm ?_
  have hB' := hB
  simp only [invB, Bool.and_eq_true, decide_eq_true_eq] at hB'
  obtain ⟨⟨⟨⟨⟨hn, hs⟩, hc⟩, hback⟩, hdist⟩, hseq⟩ := hB'
  have hn' : n < l.length := by simpa using hn
  obtain ⟨Rs, hOK, hfin⟩ := wpInv_ok (P := P) (hd := l.take n) (fun j o hj p hp => by
    obtain ⟨e, he, hb, rfl⟩ := of_mem_predsOf hp
    have hjn : j < n := by have := (List.getElem?_eq_some_iff.1 hj).1; simp at this; omega
    rw [List.getElem?_take_of_lt hjn] at hj
    exact backB_spec hback (i := j) (by simpa using hj) e he hb) (l.take n) 0 [] rfl rfl (by omega) (fun j o hj => absurd hj (by omega)) (fun k j D U w w' hj => absurd hj (by omega)) (fun j o hj => absurd hj (by omega)) h
  obtain ⟨U, hU⟩ := fillPuts_start (l.take n) 0 a
  have := wpAny_of_inv (P := P) (Q := Q) rfl hB hCT hTs hFn hOK (fun D U w hD => hfin D U w (fun k hk => hD k (by simp at hk; omega))) n (List.range n) (Array.replicate l.toArray.size false) U { w with drawn := w.drawn + 1 } List.nodup_range (by simp) (fun j => by
      rw [List.mem_range]
      constructor
      · intro hj
        exact ⟨hj, getD_in (by simp; omega) (getD_replicate_false _ _)⟩
      · exact fun h => h.1)
    ⟨by simp, fun j oj _ hl => (by rw [getD_replicate_false] at hl; cases hl), fun t _ ht => getD_in (by simpa using ht) (getD_replicate_false _ _)⟩ (by
      have e : (fun k => (Array.replicate l.toArray.size false).getD k false) = fun _ => false := funext fun k => getD_replicate_false _ _
      rw [e]; exact hC) (fun j _ hl => by rw [getD_replicate_false] at hl; cases hl) (fun j _ hl => by rw [getD_replicate_false] at hl; cases hl) (fun i j _ _ _ hl => by rw [getD_replicate_false] at hl; cases hl)
  rw [hU] at this
  have e : n + (l.toArray.size - n) = l.toArray.size := by omega
  rwa [e] at this
end
end Go.RI
end

section
namespace Go
open Go.RowKit
set_option linter.unusedSimpArgs false
/-- A cell of a kind, within its bounds. -/
def Leaf.fitsW : Leaf → Value → Bool
  | .int k, .int k' n => decide (k = k') && (Lit.int k n).wf
  | .bool, .bool _ => true
  | _, _ => false
def fitAllW : List Leaf → List Value → Bool
  | [], [] => true
  | l :: ls, x :: xs => l.fitsW x && fitAllW ls xs
  | _, _ => false
theorem fitAllW_append : ∀ {ls ms : List Leaf} {xs ys : List Value}, fitAllW ls xs = true → fitAllW ms ys = true → fitAllW (ls ++ ms) (xs ++ ys) = true
  | [], ms, [], ys, _, h2 => by simpa using h2
  | l :: ls, ms, x :: xs, ys, h1, h2 => by
    simp only [fitAllW, Bool.and_eq_true] at h1
    simp only [List.cons_append, fitAllW, Bool.and_eq_true]
    exact ⟨h1.1, fitAllW_append h1.2 h2⟩
theorem fitAllW_length : ∀ {ls : List Leaf} {xs : List Value}, fitAllW ls xs = true → xs.length = ls.length
  | [], [], _ => rfl
  | _ :: ls, _ :: xs, h => by
    simp only [fitAllW, Bool.and_eq_true] at h
    simp [fitAllW_length h.2]
theorem fitAllW_at : ∀ {ls : List Leaf} {xs : List Value} (i : Nat) (k : IntKind), fitAllW ls xs = true → ls[i]? = some (.int k) → ∃ n, xs[i]? = some (.int k n) ∧ (Lit.int k n).wf = true
  | l :: ls, x :: xs, 0, k, h, hi => by
    obtain rfl : l = .int k := by simpa using hi
    simp only [fitAllW, Bool.and_eq_true] at h
    have h1 := h.1
    cases x with
    | int k' n =>
      simp only [Leaf.fitsW, Bool.and_eq_true, decide_eq_true_eq] at h1
      obtain ⟨rfl, hw⟩ := h1
      exact ⟨n, rfl, hw⟩
    | _ => exact absurd h1 (by simp [Leaf.fitsW])
  | l :: ls, x :: xs, i + 1, k, h, hi => by
    simp only [fitAllW, Bool.and_eq_true] at h
    simpa using fitAllW_at i k h.2 (by simpa using hi)
theorem fitAllW_int {k : IntKind} {ls : List Leaf} {xs : List Value} (h : fitAllW (.int k :: ls) xs = true) : ∃ n ys, xs = .int k n :: ys ∧ (Lit.int k n).wf = true ∧ fitAllW ls ys = true := by
  cases xs with
  | nil => simp [fitAllW] at h
  | cons x ys =>
    simp only [fitAllW, Bool.and_eq_true] at h
    obtain ⟨n, h1, h2⟩ := fitAllW_at (ls := [.int k]) (xs := [x]) 0 k (by simp [fitAllW, h.1]) rfl
    obtain rfl : x = .int k n := by simpa using h1
    exact ⟨n, ys, rfl, h2, h.2⟩
theorem fitAllW_nil {xs : List Value} (h : fitAllW [] xs = true) : xs = [] := by
  cases xs with
  | nil => rfl
  | cons x ys => simp [fitAllW] at h
theorem layout_cells {P : Program} {d : Nat} {t : TypeId} {ls : List Leaf} (h : layout P d t = some ls) : P.cellsOf t = ls.length := by
  obtain ⟨i, h1, h2⟩ := layout_info h
  simp [Program.cellsOf, h1, h2]
section
variable {H : Type} {enc : TypeId × Value → H} {P : Program} {w : World} {base : Nat} {spare : Nat → Bool} {held : Bool}
theorem fields_flat {d n : Nat} (IH : ∀ (t : TypeId) (ls : List Leaf) (cs : List Value) (x : DataW H × List MemPlace), layout P d t = some ls → DataW.trod enc P w base spare held n t cs = some x → fitAllW ls cs = true) (cs : List Value) :
    ∀ (fs : List Field) (ls : List (List Leaf)) (xs : List (DataW H × List MemPlace)) (o : Nat), fs.mapM (fun f => layout P d f.type) = some ls → offsOk fs ls o = true → xs.length = fs.length →
      (∀ (i : Nat) (f : Field), fs[i]? = some f → DataW.trod enc P w base spare held n f.type ((cs.drop f.offset).take (P.cellsOf f.type)) = xs[i]?) → fitAllW ls.flatten ((cs.drop o).take ls.flatten.length) = true
  | [], ls, xs, o, h, _, _, _ => by
    simp at h
    subst h
    simp [fitAllW]
  | f :: fs, ls, xs, o, h, ho, hl, hx => by
    rw [List.mapM_cons] at h
    obtain ⟨l, h1, h2⟩ := Option.bind_eq_some_iff.1 h
    obtain ⟨ls', h3, h4⟩ := Option.bind_eq_some_iff.1 h2
    obtain rfl : l :: ls' = ls := by simpa using h4
    simp only [offsOk, Bool.and_eq_true, beq_iff_eq] at ho
    obtain ⟨⟨_, rfl⟩, ho⟩ := ho
    match xs, hl with
    | x :: xs, hl =>
      have hx0 := hx 0 f rfl
      simp only [List.getElem?_cons_zero] at hx0
      rw [layout_cells h1] at hx0
      have a1 := IH _ _ _ _ h1 hx0
      have a2 := fields_flat IH cs fs ls' xs (f.offset + l.length) h3 ho (by simpa using hl) (fun i g hg => by simpa using hx (i + 1) g (by simpa using hg))
      have e : (cs.drop f.offset).take (l :: ls').flatten.length = (cs.drop f.offset).take l.length ++ (cs.drop (f.offset + l.length)).take ls'.flatten.length := by
        rw [List.flatten_cons, List.length_append, List.take_add, List.drop_drop]
      rw [e, List.flatten_cons]
      exact fitAllW_append a1 a2
theorem items_flat {l : List Leaf} (cs : List Value) : ∀ (n o : Nat), (∀ i, i < n → fitAllW l ((cs.drop (o + i * l.length)).take l.length) = true) → fitAllW (List.replicate n l).flatten ((cs.drop o).take (List.replicate n l).flatten.length) = true
  | 0, _, _ => by simp [fitAllW]
  | n + 1, o, h => by
    have a1 := h 0 (by omega)
    have a2 := items_flat cs n (o + l.length) (fun i hi => by
      have := h (i + 1) (by omega)
      rwa [show o + (i + 1) * l.length = o + l.length + i * l.length by rw [Nat.add_mul]; omega] at this)
    simp only [Nat.zero_mul, Nat.add_zero] at a1
    have e : (cs.drop o).take (List.replicate (n + 1) l).flatten.length = (cs.drop o).take l.length ++ (cs.drop (o + l.length)).take (List.replicate n l).flatten.length := by
      rw [List.replicate_succ, List.flatten_cons, List.length_append, List.take_add, List.drop_drop]
    rw [e, List.replicate_succ, List.flatten_cons]
    exact fitAllW_append a1 a2
theorem flat_of_trod : ∀ (d n : Nat) (t : TypeId) (ls : List Leaf) (cs : List Value) (x : DataW H × List MemPlace), layout P d t = some ls → DataW.trod enc P w base spare held n t cs = some x → fitAllW ls cs = true
  | 0, _, _, _, _, _, h, _ => by simp [layout] at h
  | d + 1, n, t, ls, cs, x, h, ht => by
    have hcells := layout_cells h
    unfold layout at h
    split at h
    · rename_i hu
      split at h
      · obtain rfl : [Leaf.bool] = ls := by simpa using h
        cases n with
        | zero => simp [DataW.trod] at ht
        | succ n =>
          unfold DataW.trod at ht
          rw [hu] at ht
          split at ht <;> simp_all [fitAllW, Leaf.fitsW]
      · cases h
    · rename_i k hu
      split at h
      · obtain rfl : [Leaf.int k] = ls := by simpa using h
        obtain ⟨m, rfl, _, hw⟩ := DataW.trod_int hu ht
        simp [fitAllW, Leaf.fitsW, hw]
      · cases h
    · rename_i m e hu
      obtain ⟨l, h1, h2⟩ := Option.bind_eq_some_iff.1 h
      split at h2
      · obtain rfl : (List.replicate m l).flatten = ls := by simpa using h2
        obtain ⟨xs, n', rfl, rfl, hl, hlen, hx⟩ := DataW.trod_array hu ht
        rw [hcells] at hl
        have := items_flat (l := l) cs m 0 (fun i hi => by
          have h3 := hx i hi
          rw [layout_cells h1, List.getElem?_eq_getElem (by omega)] at h3
          rw [Nat.zero_add]
          exact flat_of_trod d n' e l _ _ h1 h3)
        rw [List.drop_zero, ← hl, List.take_length] at this
        exact this
      · cases h2
    · rename_i fs hu
      obtain ⟨ls', h1, h2⟩ := Option.bind_eq_some_iff.1 h
      split at h2
      · rename_i hc
        obtain rfl : ls'.flatten = ls := by simpa using h2
        simp only [Bool.and_eq_true] at hc
        obtain ⟨xs, n', rfl, rfl, hl, hlen, hx⟩ := DataW.trod_struct hu ht
        rw [hcells] at hl
        have := fields_flat (fun t ls cs x => flat_of_trod d n' t ls cs x) cs fs.toList ls' xs 0 h1 hc.1.2 (by simpa using hlen) (fun i f hf => by
          rw [hx i f (by simpa using hf)])
        rw [List.drop_zero, ← hl, List.take_length] at this
        exact this
      · cases h2
    · cases h
/-- A flat struct or array that came in: its cells. -/
theorem open_flat {r : Reach} {b0 : Nat} {t : TypeId} {v : Value} {dd : DataW H} {p : List MemPlace} (d : Nat) (ls : List Leaf) (hl : layout P d t = some ls) (ha : isAggB P t = true)
    (hv : Value.okWide P w r b0 t v) (h : DataW.Trod enc P w base spare held t v dd p) : ∃ cs : List Value, v = .agg cs.toArray ∧ fitAllW ls cs = true := by
  obtain ⟨fuel, hf⟩ := h
  have hcs : ∃ cs, v = .agg cs := by
    unfold isAggB at ha
    unfold Value.okWide at hv
    split at ha <;> simp_all
    · obtain ⟨cs, h, _⟩ := hv; exact ⟨cs, h⟩
    · obtain ⟨cs, h, _⟩ := hv; exact ⟨cs, h⟩
  obtain ⟨cs, rfl⟩ := hcs
  refine ⟨cs.toList, by simp, ?_⟩
  exact flat_of_trod d fuel t ls _ _ hl (by simpa [Value.cells] using hf)
end
end Go
end

section
namespace Go.Proofs.YtbcdnbbpkikppaaDoor
theorem wf_u8 {n : Int} (h : (Lit.int .u8 n).wf = true) : 0 ≤ n ∧ n ≤ 255 := by
  simpa [Lit.wf, IntKind.min, IntKind.max, IntKind.signed, IntKind.bits] using h
end Go.Proofs.YtbcdnbbpkikppaaDoor
end

section
section
namespace Go
open Go.RowKit
/-- What follows is shown of every world of which this is known. -/
theorem cut_world {P : Program} {c : Code} {Q : Exit → Act → World → Prop} {a : Act} {w : World} (F : World → Prop) (hF : F w) (h : ∀ W, F W → c.wp P Q a W) : c.wp P Q a w := h w hF
end Go
end
section
namespace Go
open Go.RowKit
/-- A block whose cells are all known. -/
theorem block_facts {w : World} {p : Nat} {cs : Array Value} {T : TypeId} (h : w.heap[p]? = some (.cells cs T (0, 0))) : (∀ i, w.cell? ⟨p, i, none⟩ = cs[i]?) ∧ (∀ i, w.frozen? ⟨p, i, none⟩ = false) ∧ p < w.heap.size :=
  ⟨fun i => by simp [World.cell?, h], fun i => by simp [World.frozen?, h], (Array.getElem?_eq_some_iff.1 h).1⟩
end Go
end
section
namespace Go
open Go.RowKit
theorem setCell_own (w : World) (K i : Nat) (cs : Array Value) (T : TypeId) (f : Nat × Nat) (v : Value) (h : w.heap[K]? = some (.cells cs T f)) : (w.setCell ⟨K, i, none⟩ v).heap[K]? = some (.cells (cs.setIfInBounds i v) T f) := by
  show (w.heap.modify K _)[K]? = _
  rw [Array.getElem?_modify, if_pos rfl, h]
  rfl
theorem alloc_old (w : World) (o : Obj) (k : Nat) (h : k < w.heap.size) : (w.alloc o).heap[k]? = w.heap[k]? := by
  show (w.heap.push o)[k]? = _
  rw [Array.getElem?_push, if_neg (by omega)]
end Go
end
section
namespace Go.Proofs.YtbcdnbbpkikppaaDoor
open Go.RowKit Go.BigFrame Go.Proofs.YtbcdnbbpkikppaaDoorW.PrintWords Go.Proofs.YtbcdnbbpkikppaaDoorW.PrintLast Go.Proofs.YtbcdnbbpkikppaaDoorW.PrintMore
set_option linter.unusedSimpArgs false
set_option linter.unusedVariables false
theorem own_form {w : World} {base : Nat} {e : TypeId} {size n : Nat} {v : Value} {xs : List Value} (h : w.ownsRow base e size v n xs) (hn : 0 < n) : ∃ g c, v = .slice (some ⟨g, 0, none⟩) n c ∧ base ≤ g ∧ g < w.heap.size := by
  rcases h.2 with ⟨_, h0⟩ | ⟨g, cap, cur, hv, hg, hh, _⟩
  · omega
  · exact ⟨g, cap, hv, hg, (Array.getElem?_eq_some_iff.1 hh).1⟩
theorem own_slice' {w : World} {base : Nat} {e : TypeId} {size n : Nat} {v : Value} {xs : List Value} (h : w.ownsRow base e size v n xs) : ∃ A c, v = .slice A n c := by
  rcases h.2 with ⟨hv, h0⟩ | ⟨g, cap, cur, hv, _⟩
  · subst h0; exact ⟨none, 0, hv⟩
  · exact ⟨_, _, hv⟩
end Go.Proofs.YtbcdnbbpkikppaaDoor
end
section
namespace Go.Proofs.YtbcdnbbpkikppaaDoor
open Go.RowKit Go.BigFrame Go.Proofs.YtbcdnbbpkikppaaDoorW.PrintWords Go.Proofs.YtbcdnbbpkikppaaDoorW.PrintLast Go.Proofs.YtbcdnbbpkikppaaDoorW.PrintMore
set_option linter.unusedSimpArgs false
set_option linter.unusedVariables false
/-- N whole numbers, each of its own kind. -/
def ag (k : Nat → IntKind) (N : Nat) (st : Nat → Int) : Array Value := ((List.range N).map fun i => Value.int (k i) (st i)).toArray
def updI (st : Nat → Int) (i : Nat) (x : Int) : Nat → Int := fun j => if j = i then x else st j
theorem ag_size (k : Nat → IntKind) (N : Nat) (st : Nat → Int) : (ag k N st).size = N := by simp [ag]
theorem ag_get (k : Nat → IntKind) (N : Nat) (st : Nat → Int) (i : Nat) (h : i < N) : (ag k N st)[i]? = some (.int (k i) (st i)) := by
  simp [ag, h]
theorem ag_set (k : Nat → IntKind) (N : Nat) (st : Nat → Int) (i : Nat) (h : i < N) (x : Int) : (ag k N st).setIfInBounds i (.int (k i) x) = ag k N (updI st i x) := by
  apply Array.ext
  · simp [ag]
  · intro j h1 h2
    have hj : j < N := by simpa [ag] using h2
    rw [Array.getElem_setIfInBounds (by simpa [ag] using hj)]
    unfold updI
    by_cases e : i = j
    · subst e; simp [ag]
    · rw [if_neg e]; simp [ag, Ne.symm e]
theorem ag_ext (k : Nat → IntKind) (N : Nat) (s t : Nat → Int) (h : ∀ i, i < N → s i = t i) : ag k N s = ag k N t := by
  unfold ag
  congr 1
  apply List.map_congr_left
  intro i hi
  rw [h i (by simpa using hi)]
end Go.Proofs.YtbcdnbbpkikppaaDoor
end
section
namespace Go.Proofs.YtbcdnbbpkikppaaDoor
open Go.RowKit Go.BigFrame Go.Proofs.YtbcdnbbpkikppaaDoorW.PrintWords Go.Proofs.YtbcdnbbpkikppaaDoorW.PrintLast Go.Proofs.YtbcdnbbpkikppaaDoorW.PrintMore
set_option linter.unusedSimpArgs false
set_option linter.unusedVariables false
theorem cells_all {w : World} {g N : Nat} {e : TypeId} {old cs : Array Value} (h : w.heap[g]? = some (.cells old e (0, 0))) (h1 : old.size = N) (h2 : cs.size = N) : (w.setCells g 0 cs.toList).heap[g]? = some (.cells cs e (0, 0)) := by
  obtain ⟨cur, q1, q2, q3⟩ := setCells_row cs.toList 0 w old h (by rw [Array.length_toList]; omega)
  have : cur = cs := by
    apply Array.ext'
    rw [q3, List.take_zero, List.nil_append, List.drop_of_length_le (by rw [Array.length_toList, Array.length_toList]; omega), List.append_nil]
  rw [q1, this]
theorem ag_one (k : Nat → IntKind) (N : Nat) (st : Nat → Int) : (ag k N st).all (·.oneCell') = true := by
  rw [Array.all_eq_true]
  intro i hi
  simp [ag, Value.oneCell']
end Go.Proofs.YtbcdnbbpkikppaaDoor
end
section
namespace Go.Proofs.YtbcdnbbpkikppaaDoor
open Go.RowKit Go.BigFrame Go.Proofs.YtbcdnbbpkikppaaDoorW.PrintWords Go.Proofs.YtbcdnbbpkikppaaDoorW.PrintLast Go.Proofs.YtbcdnbbpkikppaaDoorW.PrintMore
set_option linter.unusedSimpArgs false
set_option linter.unusedVariables false
theorem ag_cell {w : World} {b N : Nat} {e : TypeId} {k : Nat → IntKind} {f : Nat → Int} (h : w.heap[b]? = some (.cells (ag k N f) e (0, 0))) (i : Nat) (hi : i < N) :
    w.cell? ⟨b, i, none⟩ = some (.int (k i) (f i)) := by rw [(block_facts h).1 i, ag_get _ _ _ _ hi]
theorem build_to {P : Program} {ops : Array Oper} {rest : List Oper} {o : Oper} {a : Act} {w : World} {Q : Exit → Act → World → Prop} (hg : o.guard = none) (t : TypeId) (parts : Array (Nat × Operand)) (ho : o.op = .build t parts) (cells : Array Value)
    (hb : P.built t (parts.map fun (i, x) => (i, a.eval x)).toList = some cells)
    (h : wpList P ops Q rest (a.put o.dst (.agg cells)) w) : wpList P ops Q (o :: rest) a w :=
  wpList_build hg t parts ho (by rw [hb]; rfl) (by rw [hb]; exact h)
theorem there_row {w : World} {b : Nat} {e : TypeId} {old : Array Value} (h : w.heap[b]? = some (.cells old e (0, 0))) (n : Nat) (hn : n ≤ old.size) : w.there b 0 n := by
  intro j hj
  rw [Nat.zero_add]
  refine ⟨?_, (block_facts h).2.1 j⟩
  rw [(block_facts h).1 j, Array.getElem?_eq_getElem (by omega)]
  rfl
theorem alloc_two (w : World) (o p : Obj) : ((w.alloc o).alloc p).heap[w.heap.size]? = some o :=
  ((below_alloc (Below.refl _ _) _ : Below (w.alloc o).heap.size _ ((w.alloc o).alloc p)).block _ (by simp)).trans (alloc_at _ _)
end Go.Proofs.YtbcdnbbpkikppaaDoor
end
section
namespace Go.Proofs.YtbcdnbbpkikppaaDoor
open Go.RowKit Go.BigFrame Go.Proofs.YtbcdnbbpkikppaaDoorW.PrintWords Go.Proofs.YtbcdnbbpkikppaaDoorW.PrintLast Go.Proofs.YtbcdnbbpkikppaaDoorW.PrintMore
set_option linter.unusedSimpArgs false
set_option linter.unusedVariables false
/-- One block has been written, no other one. -/
structure Only (B : Nat) (w w' : World) : Prop where
  os : w'.os = w.os
  tape : w'.tape = w.tape
  output : w'.output = w.output
  size : w'.heap.size = w.heap.size
  block : ∀ k, k ≠ B → w'.heap[k]? = w.heap[k]?
theorem Only.below {B C : Nat} {w0 w w' : World} (h : Only B w w') (hb : Below C w0 w) (hB : C ≤ B) : Below C w0 w' :=
  hb.trans ⟨h.os, h.tape, h.output, Nat.le_of_eq h.size.symm, fun k hk => h.block k (by omega)⟩
theorem Only.setCell {w w' : World} {p : Addr} (v : Value) (h : Only p.block w w') : Only p.block w (w'.setCell p v) :=
  ⟨h.os, h.tape, h.output, by rw [← h.size]; simp, fun k hk => (Below.heap_setCell w' p v k hk).trans (h.block k hk)⟩
theorem Only.refl (B : Nat) (w : World) : Only B w w := ⟨rfl, rfl, rfl, rfl, fun _ _ => rfl⟩
theorem Only.trans {B : Nat} {a b c : World} (h : Only B a b) (k : Only B b c) : Only B a c :=
  ⟨k.os.trans h.os, k.tape.trans h.tape, k.output.trans h.output, k.size.trans h.size, fun i hi => (k.block i hi).trans (h.block i hi)⟩
theorem only_setCells (w : World) (g o : Nat) (vs : List Value) : Only g w (w.setCells g o vs) := by
  obtain ⟨h1, h2, h3, h4⟩ := setCells_same g vs o w
  exact ⟨h1, h2, h3, h4, fun k hk => setCells_far vs o k hk⟩
abbrev Bx (B : Nat) (T : TypeId) (k : Nat → IntKind) (N : Nat) (f : Nat → Int) (w : World) : Prop := w.heap[B]? = some (.cells (ag k N f) T (0, 0))
theorem Bx.keep {B T k N f} {w w' : World} (h : Bx B T k N f w) (hb : Below w.heap.size w w') : Bx B T k N f w' := (hb.block B (block_facts h).2.2).trans h
theorem Bx.only {B C T k N f} {w w' : World} (h : Bx B T k N f w) (ho : Only C w w') (hne : B ≠ C) : Bx B T k N f w' := (ho.block B hne).trans h
end Go.Proofs.YtbcdnbbpkikppaaDoor
namespace Go
open Go.RowKit
/-- One step of a region: what stands is kept, but a block of type T0, made since V, may have come to hold X. -/
structure TT (V : World) (T0 : TypeId) (X : Array Value) (W W' : World) : Prop where
  below : Below V.heap.size W W'
  other : ∀ (k : Nat) (cs : Array Value) (T : TypeId) (f : Nat × Nat), T ≠ T0 → W.heap[k]? = some (.cells cs T f) → W'.heap[k]? = some (.cells cs T f)
  own : ∀ (k : Nat) (cs : Array Value) (f : Nat × Nat), W.heap[k]? = some (.cells cs T0 f) → W'.heap[k]? = some (.cells cs T0 f) ∨ W'.heap[k]? = some (.cells X T0 (0, 0))
theorem TT.of_below {V W W' : World} {T0 : TypeId} {X : Array Value} (hs : V.heap.size ≤ W.heap.size) (h : Below W.heap.size W W') : TT V T0 X W W' :=
  ⟨h.mono hs, fun k _ _ _ _ hk => (h.block k (Array.getElem?_eq_some_iff.1 hk).1).trans hk, fun k _ _ hk => .inl ((h.block k (Array.getElem?_eq_some_iff.1 hk).1).trans hk)⟩
end Go
end
section
namespace Go.Proofs.YtbcdnbbpkikppaaDoor
open Go.RowKit Go.BigFrame Go.Proofs.YtbcdnbbpkikppaaDoorW.PrintWords Go.Proofs.YtbcdnbbpkikppaaDoorW.PrintLast Go.Proofs.YtbcdnbbpkikppaaDoorW.PrintMore
set_option linter.unusedSimpArgs false
set_option linter.unusedVariables false
theorem alloc_secondOf (w : World) (o p : Obj) : ((w.alloc o).alloc p).heap[w.heap.size + 1]? = some p := by
  have := alloc_at (w.alloc o) p
  rw [show (w.alloc o).heap.size = w.heap.size + 1 from by simp] at this
  exact this
end Go.Proofs.YtbcdnbbpkikppaaDoor
end
section
namespace Go
open Go.RowKit
theorem load_row_g {P : Program} {ops : Array Oper} {rest : List Oper} {o : Oper} {a : Act} {w : World} {Q : Exit → Act → World → Prop} (hw : Region.wanted o (yielded ops a.tmps) = true) (ty : TypeId) (x : Operand) (ho : o.op = .load ty x)
    (g : Nat) (hx : a.eval x = .pointer (some ⟨g, 0, none⟩)) (t : TypeId) (cs : Array Value) (fr : Nat × Nat) (d : TypeDesc) (hg : w.heap[g]? = some (.cells cs t fr))
    (hu : P.underlying ty = some d) (hd : (match d with | .struct _ | .array _ _ => true | _ => false) = true) (hi : (P.info? ty).map (·.size) = some cs.size)
    (h : wpList P ops Q rest (a.put o.dst (.agg cs)) w) : wpList P ops Q (o :: rest) a w := by
  unfold wpList
  rw [if_pos hw]
  exact .inl (wp_load_row ty x ho g hx t cs fr d hg hu hd hi h)
theorem load_mid_g {P : Program} {ops : Array Oper} {rest : List Oper} {o : Oper} {a : Act} {w : World} {Q : Exit → Act → World → Prop} (hw : Region.wanted o (yielded ops a.tmps) = true) (ty : TypeId) (x : Operand) (ho : o.op = .load ty x)
    (b f : Nat) (hx : a.eval x = .pointer (some ⟨b, f, none⟩)) (cs : List Value) (d : TypeDesc) (hc : w.rangeAt b f cs)
    (hu : P.underlying ty = some d) (hd : d.isRow = true) (hi : (P.info? ty).map (·.size) = some cs.length)
    (h : wpList P ops Q rest (a.put o.dst (.agg cs.toArray)) w) : wpList P ops Q (o :: rest) a w := by
  unfold wpList
  rw [if_pos hw]
  exact .inl (wp_load_mid ty x ho b f hx cs d hc hu hd hi h)
end Go
end
end

section
namespace Go
open Go.RowKit
/-- Of what was there nothing has changed but the blocks listed. -/
structure Chg (l : List Nat) (w w' : World) : Prop where
  os : w'.os = w.os
  tape : w'.tape = w.tape
  output : w'.output = w.output
  size : w.heap.size ≤ w'.heap.size
  block : ∀ k, k < w.heap.size → k ∉ l → w'.heap[k]? = w.heap[k]?
theorem Chg.refl (l : List Nat) (w : World) : Chg l w w := ⟨rfl, rfl, rfl, Nat.le_refl _, fun _ _ _ => rfl⟩
theorem Chg.trans {l : List Nat} {a b c : World} (h : Chg l a b) (k : Chg l b c) : Chg l a c :=
  ⟨k.os.trans h.os, k.tape.trans h.tape, k.output.trans h.output, Nat.le_trans h.size k.size, fun i hi hn => (k.block i (Nat.lt_of_lt_of_le hi h.size) hn).trans (h.block i hi hn)⟩
theorem Chg.mono {l l' : List Nat} {a b : World} (h : Chg l a b) (hs : ∀ k, k ∈ l → k ∈ l') : Chg l' a b :=
  ⟨h.os, h.tape, h.output, h.size, fun i hi hn => h.block i hi (fun hm => hn (hs i hm))⟩
theorem Chg.of_below {l : List Nat} {w w' : World} (h : Below w.heap.size w w') : Chg l w w' := ⟨h.os, h.tape, h.output, h.size, fun k hk _ => h.block k hk⟩
theorem Chg.below {l : List Nat} {w a b : World} (h : Chg l w a) (hb : Below a.heap.size a b) : Chg l w b := h.trans (Chg.of_below hb)
theorem Chg.toBelow {l : List Nat} {w w' : World} (h : Chg l w w') {B : Nat} (hB : B ≤ w.heap.size) (hl : ∀ k, k ∈ l → B ≤ k) : Below B w w' :=
  ⟨h.os, h.tape, h.output, h.size, fun k hk => h.block k (by omega) (fun hm => by have := hl k hm; omega)⟩
/-- Blocks that are new to the first world don't count. -/
theorem Chg.drop {l l' : List Nat} {w a b : World} (h : Chg l w a) (k : Chg l' a b) (hl : ∀ i, i ∈ l' → i ∈ l ∨ w.heap.size ≤ i) : Chg l w b :=
  ⟨k.os.trans h.os, k.tape.trans h.tape, k.output.trans h.output, Nat.le_trans h.size k.size, fun i hi hn => (k.block i (Nat.lt_of_lt_of_le hi h.size) (fun hm => by
    rcases hl i hm with h1 | h1
    · exact hn h1
    · omega)).trans (h.block i hi hn)⟩
theorem Chg.setCell {l : List Nat} {w a : World} (h : Chg l w a) {b i : Nat} {s : Option Nat} (v : Value) (hb : b ∈ l) : Chg l w (a.setCell ⟨b, i, s⟩ v) :=
  ⟨h.os, h.tape, h.output, by simpa using h.size, fun k hk hn => by
    refine Eq.trans ?_ (h.block k hk hn)
    show (a.heap.modify b _)[k]? = _
    rw [Array.getElem?_modify, if_neg (fun e => hn (by rw [← e]; exact hb))]⟩
theorem Chg.alloc {l : List Nat} {w a : World} (h : Chg l w a) (o : Obj) : Chg l w (a.alloc o) := h.below ((Below.refl _ _).alloc (Nat.le_refl _) o)
theorem Chg.grew {l : List Nat} {w a : World} (h : Chg l w a) (x : Grown.By) : Chg l w (a.grew x) := h.below (below_grew (Below.refl _ _) (Nat.le_refl _) x)
theorem Chg.drew {l : List Nat} {w a : World} (h : Chg l w a) : Chg l w a.drew := ⟨h.os, h.tape, h.output, h.size, h.block⟩
theorem Chg.drewN {l : List Nat} {w a : World} (h : Chg l w a) (n : Nat) : Chg l w (a.drewN n) := ⟨h.os, h.tape, h.output, h.size, h.block⟩
theorem Chg.cell {l : List Nat} {w w' : World} (h : Chg l w w') (b o : Nat) (hb : b < w.heap.size) (hn : b ∉ l) : w'.cell? ⟨b, o, none⟩ = w.cell? ⟨b, o, none⟩ := by
  unfold World.cell?; rw [h.block b hb hn]
theorem Chg.frozen {l : List Nat} {w w' : World} (h : Chg l w w') (b o : Nat) (hb : b < w.heap.size) (hn : b ∉ l) : w'.frozen? ⟨b, o, none⟩ = w.frozen? ⟨b, o, none⟩ := by
  unfold World.frozen?; rw [h.block b hb hn]
theorem Chg.keepB {l : List Nat} {w w' : World} (h : Chg l w w') {b : Nat} {o : Obj} (hb : w.heap[b]? = some o) (hn : b ∉ l) : w'.heap[b]? = some o :=
  (h.block b (Array.getElem?_eq_some_iff.1 hb).1 hn).trans hb
end Go
namespace Go.Proofs.YtbcdnbbpkikppaaDoor
open Go.RowKit
theorem _root_.Go.Chg.setCells {l : List Nat} {w a : World} (h : Chg l w a) {b i : Nat} (vs : List Value) (hb : b ∈ l) : Chg l w (a.setCells b i vs) := by
  have ho := only_setCells a b i vs
  exact ⟨ho.os.trans h.os, ho.tape.trans h.tape, ho.output.trans h.output, by rw [ho.size]; exact h.size, fun k hk hn => (ho.block k (fun e => hn (by first | (rw [e]; exact hb) | (rw [← e]; exact hb)))).trans (h.block k hk hn)⟩
end Go.Proofs.YtbcdnbbpkikppaaDoor
end

section
namespace Go.Proofs.YtbcdnbbpkikppaaDoor
open Go.RowKit
set_option linter.unusedSimpArgs false
set_option linter.unusedVariables false
theorem gate_ld {P : Program} {ops : Array Oper} {rest : List Oper} {o : Oper} {a : Act} {w : World} {Q : Exit → Act → World → Prop} (ty : TypeId) (x : Operand) (ho : o.op = .load ty x) (h : wpList P ops Q (o :: rest) a w) : wpList P ops Q (o :: rest) a w := h
theorem build_to_g {P : Program} {ops : Array Oper} {rest : List Oper} {o : Oper} {a : Act} {w : World} {Q : Exit → Act → World → Prop} (hw : Region.wanted o (yielded ops a.tmps) = true) (t : TypeId) (parts : Array (Nat × Operand)) (ho : o.op = .build t parts) (cells : Array Value)
    (hb : P.built t (parts.map fun (i, x) => (i, a.eval x)).toList = some cells)
    (h : wpList P ops Q rest (a.put o.dst (.agg cells)) w) : wpList P ops Q (o :: rest) a w := by
  unfold wpList
  rw [if_pos hw]
  exact .inl (wp_build t parts ho (by rw [hb]; rfl) (by rw [hb]; exact h))
def av (N : Nat) (F : Nat → Value) : Array Value := ((List.range N).map F).toArray
def updV (F : Nat → Value) (i : Nat) (v : Value) : Nat → Value := fun j => if j = i then v else F j
theorem av_size (N : Nat) (F : Nat → Value) : (av N F).size = N := by simp [av]
theorem av_get (N : Nat) (F : Nat → Value) (i : Nat) (h : i < N) : (av N F)[i]? = some (F i) := by simp [av, h]
theorem av_ext (N : Nat) (F G : Nat → Value) (h : ∀ i, i < N → F i = G i) : av N F = av N G := by
  unfold av
  congr 1
  apply List.map_congr_left
  intro i hi
  exact h i (by simpa using hi)
theorem av_set (N : Nat) (F : Nat → Value) (i : Nat) (h : i < N) (v : Value) : (av N F).setIfInBounds i v = av N (updV F i v) := by
  apply Array.ext
  · simp [av]
  · intro j h1 h2
    have hj : j < N := by simpa [av] using h2
    rw [Array.getElem_setIfInBounds (by simpa [av] using hj)]
    have e1 : (av N (updV F i v))[j] = updV F i v j := by simp [av]
    rw [e1]
    unfold updV
    by_cases e : i = j
    · subst e; rw [if_pos rfl, if_pos rfl]
    · rw [if_neg e, if_neg (fun h => e h.symm)]
      simp [av]
theorem av_toList (N : Nat) (F : Nat → Value) : (av N F).toList = (List.range N).map F := by simp [av]
abbrev Bv (b : Nat) (T : TypeId) (N : Nat) (F : Nat → Value) (w : World) : Prop := w.heap[b]? = some (.cells (av N F) T (0, 0))
theorem Bv.cell {b T N F} {w : World} (h : Bv b T N F w) (i : Nat) (hi : i < N) : w.cell? ⟨b, i, none⟩ = some (F i) := by rw [(block_facts h).1 i, av_get _ _ _ hi]
theorem Bv.set {b T N F} {w : World} (h : Bv b T N F w) (i : Nat) (hi : i < N) (v : Value) : Bv b T N (updV F i v) (w.setCell ⟨b, i, none⟩ v) := by
  have := setCell_own w b i _ _ _ v h
  rw [av_set N F i hi v] at this
  exact this
theorem Bv.ext {b T N F G} {w : World} (h : Bv b T N F w) (he : ∀ i, i < N → F i = G i) : Bv b T N G w := by
  unfold Bv at *; rw [← av_ext N F G he]; exact h
/-- A frame's cell: two flags, then whole numbers. -/
def fcell (j : Nat) (x : Int) : Value := if j < 2 then .bool (x != 0) else .int .i64 x
theorem fcell_int (j : Nat) (hj : ¬ j < 2) (x : Int) : fcell j x = .int .i64 x := by unfold fcell; rw [if_neg hj]
end Go.Proofs.YtbcdnbbpkikppaaDoor
end

section
namespace Go.Proofs.YtbcdnbbpkikppaaDoor
open Go.RowKit Go.BigFrame
set_option linter.unusedSimpArgs false
set_option linter.unusedVariables false
abbrev TFr := 35
abbrev TPv := 30
abbrev i64t : Nat → IntKind := fun _ => .i64
def zeroF : Nat → Int := fun _ => 0
def frC (f : Nat → Int) : Nat → Value := fun j => fcell j (f j)
theorem zeroFr_eq : Tryd.zeroCells35 = av 94 (frC zeroF) := by kernel_rfl
theorem infoFr : (Tryd.prog.info? TFr).map (·.size) = some 94 := by kernel_rfl
theorem infoPv : (Tryd.prog.info? TPv).map (·.size) = some 10 := by kernel_rfl
theorem fr_one (f : Nat → Int) : (av 94 (frC f)).all (·.oneCell') = true := by
  rw [Array.all_eq_true]
  intro i hi
  have : (av 94 (frC f))[i] = fcell i (f i) := by simp [av, frC]
  rw [this]
  unfold fcell
  split <;> rfl
theorem alloc_three' (w : World) (o p q : Obj) : (((w.alloc o).alloc p).alloc q).heap[w.heap.size]? = some o :=
  (alloc_old _ _ _ (by simp; omega)).trans (alloc_two w o p)
end Go.Proofs.YtbcdnbbpkikppaaDoor
end

section
namespace Go.Proofs.YtbcdnbbpkikppaaDoor
open Go.RowKit Go.BigFrame
set_option linter.unusedSimpArgs false
set_option linter.unusedVariables false
abbrev TAk := 26
/-- A packet, a mode, and the energies ahead. -/
def askC (A : Option Addr) (n cap : Nat) (sz ch : Int) (pr : Nat → Int) (i : Nat) : Value :=
  if i = 0 then .slice A n cap else if i = 1 then .int .u8 sz else if i = 2 then .int .u8 ch else .int .u8 (pr (i - 3))
def enTo (pr : Nat → Int) (k : Nat) : Nat → Int := fun j => if j < k then pr j % 32 else 0
def enF (pr : Nat → Int) : Nat → Int := fun j => pr j % 32
theorem enTo_set (pr : Nat → Int) (k : Nat) : updI (enTo pr k) k (pr k % 32) = enTo pr (k + 1) := by
  funext j
  unfold updI enTo
  by_cases e : j = k
  · subst e; rw [if_pos rfl, if_pos (by omega)]
  · rw [if_neg e]
    by_cases h : j < k
    · rw [if_pos h, if_pos (by omega)]
    · rw [if_neg h, if_neg (by omega)]
/-- The call's frame. -/
structure EW (w : World) (B : Nat) (a : Nat → Value) (f : Nat → Int) (W : World) : Prop where
  below : Below B w W
  ask : Bv B TAk 13 a W
  res : Bx (B + 1) TPv i64t 10 (fun _ => 0) W
  out : Bx (B + 2) TPv i64t 10 f W
theorem EW.keep {w B a f} {W W' : World} (h : EW w B a f W) (hb : Below W.heap.size W W') : EW w B a f W' := by
  have h2 := (block_facts h.out).2.2
  exact ⟨h.below.trans (hb.mono (by omega)), (hb.block _ (by omega)).trans h.ask, (hb.block _ (by omega)).trans h.res, (hb.block _ h2).trans h.out⟩
theorem EW.store {w B a f} {W : World} (h : EW w B a f W) (k : Nat) (hk : k < 10) (x : Int) : EW w B a (updI f k x) (W.setCell ⟨B + 2, k, none⟩ (.int .i64 x)) := by
  have hn : ∀ b, b ≠ B + 2 → (W.setCell ⟨B + 2, k, none⟩ (.int .i64 x)).heap[b]? = W.heap[b]? := fun b hb => by
    show (W.heap.modify (B + 2) _)[b]? = _
    rw [Array.getElem?_modify, if_neg (fun e => hb e.symm)]
  refine ⟨h.below.setCell (by simp) _, (hn _ (by omega)).trans h.ask, (hn _ (by omega)).trans h.res, ?_⟩
  have := setCell_own W (B + 2) k _ _ _ (.int .i64 x) h.out
  rw [show Value.int IntKind.i64 x = Value.int (i64t k) x from rfl, ag_set i64t 10 f k hk x] at this
  exact this
set_option maxHeartbeats 4000000 in
set_option maxRecDepth 100000 in
theorem askEn (A : Option Addr) (n cap : Nat) (sz ch : Int) (pr : Nat → Int) (hp : ∀ j, j < 10 → 0 ≤ pr j ∧ pr j ≤ 255) (w : World) :
    Calls Tryd.prog 12 #[.agg (av 13 (askC A n cap sz ch pr))] w fun e w' => e = .returned (.agg (ag i64t 10 (enF pr))) ∧ Below w.heap.size w w' := by
  have HP := Lib.hid hp
  clear hp
  go_enter Tryd.func12, Tryd.ntmps12
  go_upto_region 2 with fail
  refine cut_world (fun W => EW w w.heap.size (askC A n cap sz ch pr) (fun _ => 0) W) ⟨by (repeat' (first | (with_reducible exact Below.refl _ _) | (with_reducible assumption) | (with_reducible refine Below.alloc ?_ ?_ _) | (with_reducible refine below_grew ?_ ?_ _) | (with_reducible refine Below.setCell ?_ ?_ _) | (with_reducible refine Below.drew ?_) | (with_reducible refine below_drewN ?_ _) | omega | (simp; done) | (simp; omega))), alloc_three' _ _ _ _, ?_, ?_⟩ ?_
  · exact (alloc_old _ _ _ (by simp)).trans (alloc_secondOf _ _ _)
  · have h := alloc_at ((w.alloc (.cells (av 13 (askC A n cap sz ch pr)) TAk (0, 0))).alloc (.cells (ag i64t 10 (fun _ => 0)) TPv (0, 0))) (.cells (ag i64t 10 (fun _ => 0)) TPv (0, 0))
    have e : ((w.alloc (.cells (av 13 (askC A n cap sz ch pr)) TAk (0, 0))).alloc (.cells (ag i64t 10 (fun _ => 0)) TPv (0, 0))).heap.size = w.heap.size + 2 := by simp
    rw [e] at h
    exact h
  generalize hBd : w.heap.size = B at *
  have HBd := Lib.hid hBd
  clear hBd
  intro V hV
  have HV := Lib.hid hV
  clear hV
  go_wp2_with fail
  go_loopw [4, 5, 6] (fun v4 v5 cnt wr => ∃ c : Nat, c ≤ 2 ∧ cnt = .int .i64 c ∧ EW w B (askC A n cap sz ch pr) (enTo pr (c * 5)) wr) (fun _ _ cnt _ => 2 - (intOf cnt).toNat)
  case atStart => exact ⟨0, by omega, rfl, HV.out⟩
  case round =>
    clear HV
    obtain ⟨c, hc, rfl, hE⟩ := hrel
    have HE := Lib.hid hE
    have hc0 : (0 : Int) ≤ c := by omega
    clear hE
    by_cases hlt : c < 2
    · have hlt' : (c : Int) < 2 := by omega
      go_wp2_with fail
      go_loopw [5, 9] (fun v5 cnt wi => ∃ b : Nat, b ≤ 5 ∧ cnt = .int .i64 b ∧ EW w B (askC A n cap sz ch pr) (enTo pr (c * 5 + b)) wi) (fun _ cnt _ => 5 - (intOf cnt).toNat)
      case atStart => exact ⟨0, by omega, rfl, HE.out⟩
      case round =>
        clear HE
        obtain ⟨b, hb, rfl, hE⟩ := hrel
        obtain ⟨Y, rfl⟩ : ∃ W : World, W = wr := ⟨_, rfl⟩
        have HE := Lib.hid hE
        have hb0 : (0 : Int) ≤ b := by omega
        by_cases hlb : b < 5
        · have hlb' : (b : Int) < 5 := by omega
          have hk : c * 5 + b < 10 := by omega
          have q0 := hE.ask.cell (3 + c * 5 + b) (by omega)
          have e0 : askC A n cap sz ch pr (3 + c * 5 + b) = .int .u8 (pr (c * 5 + b)) := by
            unfold askC
            rw [if_neg (by omega), if_neg (by omega), if_neg (by omega), show 3 + c * 5 + b - 3 = c * 5 + b by omega]
          rw [e0] at q0
          have hl := (block_facts hE.ask).2.2
          have hl2 := (block_facts hE.out).2.2
          obtain ⟨x0, x1⟩ := HP.out _ hk
          have HS := Lib.hid (enTo_set pr (c * 5 + b))
          obtain ⟨x, hx⟩ : ∃ x, pr (c * 5 + b) = x := ⟨_, rfl⟩
          rw [hx] at q0 x0 x1 HS
          have hxm : x.tmod 32 = x % 32 := Int.tmod_eq_emod_of_nonneg x0
          clear hE e0 hx
          go_upto_region 8 with fail
          refine wp_region_inv [] (fun W => Below Y.heap.size Y W) (fun W W' => Below W.heap.size W W') 12 (by kernel_rfl) (by kernel_rfl) (by kernel_rfl) ((Below.refl _ _).drew) (fun W W' h h' => h.trans (h'.mono h.size)) (fun _ _ h => h.size) ?_
          simp only [List.take_succ_cons, List.take_zero, List.drop_succ_cons, List.drop_zero]
          refine wpInv_det (by kernel_rfl) (by kernel_rfl) ?_
          apply Exists.intro
          refine ⟨?_, ?_, ?_⟩
          · intro U W hC hH
            have hc1 := (bcell hC).1
            have hf1 := (bcell hC).2
            simp only [HypsU, predsOf, Region.binds, List.filterMap_cons, List.filterMap_nil, if_true, List.nil_append, List.cons_append, List.getD_cons_zero, List.getD_cons_succ] at hH
            simp only [fillPuts, Act.put, List.setIfInBounds_toArray, List.set_cons_zero, List.set_cons_succ, Nat.reduceAdd]
            go_wp2_with fail
            refine ⟨rfl, rfl, by (repeat' (first | (with_reducible exact Below.refl _ _) | (with_reducible assumption) | (with_reducible refine Below.alloc ?_ ?_ _) | (with_reducible refine below_grew ?_ ?_ _) | (with_reducible refine Below.setCell ?_ ?_ _) | (with_reducible refine Below.drew ?_) | (with_reducible refine below_drewN ?_ _) | omega | (simp; done) | (simp; omega))), ?_⟩
            conv => lhs; whnf
            try rfl
          · exact fun _ => rfl
          simp only [List.nil_append, List.cons_append, Nat.reduceAdd]
          refine wpInv_det (by kernel_rfl) (by kernel_rfl) ?_
          apply Exists.intro
          refine ⟨?_, ?_, ?_⟩
          · intro U W hC hH
            have hc1 := (bcell hC).1
            have hf1 := (bcell hC).2
            simp only [HypsU, predsOf, Region.binds, List.filterMap_cons, List.filterMap_nil, if_true, List.nil_append, List.cons_append, List.getD_cons_zero, List.getD_cons_succ] at hH
            simp only [fillPuts, Act.put, List.setIfInBounds_toArray, List.set_cons_zero, List.set_cons_succ, Nat.reduceAdd]
            go_wp2_with fail
            refine ⟨rfl, rfl, by (repeat' (first | (with_reducible exact Below.refl _ _) | (with_reducible assumption) | (with_reducible refine Below.alloc ?_ ?_ _) | (with_reducible refine below_grew ?_ ?_ _) | (with_reducible refine Below.setCell ?_ ?_ _) | (with_reducible refine Below.drew ?_) | (with_reducible refine below_drewN ?_ _) | omega | (simp; done) | (simp; omega))), ?_⟩
            conv => lhs; whnf
            try rfl
          · exact fun _ => rfl
          simp only [List.nil_append, List.cons_append, Nat.reduceAdd]
          refine wpInv_det (by kernel_rfl) (by kernel_rfl) ?_
          apply Exists.intro
          refine ⟨?_, ?_, ?_⟩
          · intro U W hC hH
            have hc1 := (bcell hC).1
            have hf1 := (bcell hC).2
            simp only [HypsU, predsOf, Region.binds, List.filterMap_cons, List.filterMap_nil, if_true, List.nil_append, List.cons_append, List.getD_cons_zero, List.getD_cons_succ] at hH
            simp only [fillPuts, Act.put, List.setIfInBounds_toArray, List.set_cons_zero, List.set_cons_succ, Nat.reduceAdd]
            go_wp2_with fail
            refine ⟨rfl, rfl, by (repeat' (first | (with_reducible exact Below.refl _ _) | (with_reducible assumption) | (with_reducible refine Below.alloc ?_ ?_ _) | (with_reducible refine below_grew ?_ ?_ _) | (with_reducible refine Below.setCell ?_ ?_ _) | (with_reducible refine Below.drew ?_) | (with_reducible refine below_drewN ?_ _) | omega | (simp; done) | (simp; omega))), ?_⟩
            conv => lhs; whnf
            try rfl
          · exact fun _ => rfl
          simp only [List.nil_append, List.cons_append, Nat.reduceAdd]
          refine wpInv_det (by kernel_rfl) (by kernel_rfl) ?_
          apply Exists.intro
          refine ⟨?_, ?_, ?_⟩
          · intro U W hC hH
            have hc1 := (bcell hC).1
            have hf1 := (bcell hC).2
            simp only [HypsU, predsOf, Region.binds, List.filterMap_cons, List.filterMap_nil, if_true, List.nil_append, List.cons_append, List.getD_cons_zero, List.getD_cons_succ] at hH
            simp only [fillPuts, Act.put, List.setIfInBounds_toArray, List.set_cons_zero, List.set_cons_succ, Nat.reduceAdd]
            go_wp2_with fail
            refine ⟨rfl, rfl, by (repeat' (first | (with_reducible exact Below.refl _ _) | (with_reducible assumption) | (with_reducible refine Below.alloc ?_ ?_ _) | (with_reducible refine below_grew ?_ ?_ _) | (with_reducible refine Below.setCell ?_ ?_ _) | (with_reducible refine Below.drew ?_) | (with_reducible refine below_drewN ?_ _) | omega | (simp; done) | (simp; omega))), ?_⟩
            conv => lhs; whnf
            try rfl
          · exact fun _ => rfl
          simp only [List.nil_append, List.cons_append, Nat.reduceAdd]
          refine wpInv_det (by kernel_rfl) (by kernel_rfl) ?_
          apply Exists.intro
          refine ⟨?_, ?_, ?_⟩
          · intro U W hC hH
            have hc1 := (bcell hC).1
            have hf1 := (bcell hC).2
            simp only [HypsU, predsOf, Region.binds, List.filterMap_cons, List.filterMap_nil, if_true, List.nil_append, List.cons_append, List.getD_cons_zero, List.getD_cons_succ] at hH
            simp only [fillPuts, Act.put, List.setIfInBounds_toArray, List.set_cons_zero, List.set_cons_succ, Nat.reduceAdd]
            go_wp2_with fail
            refine ⟨rfl, rfl, by (repeat' (first | (with_reducible exact Below.refl _ _) | (with_reducible assumption) | (with_reducible refine Below.alloc ?_ ?_ _) | (with_reducible refine below_grew ?_ ?_ _) | (with_reducible refine Below.setCell ?_ ?_ _) | (with_reducible refine Below.drew ?_) | (with_reducible refine below_drewN ?_ _) | omega | (simp; done) | (simp; omega))), ?_⟩
            conv => lhs; whnf
            try rfl
          · exact fun _ => rfl
          simp only [List.nil_append, List.cons_append, Nat.reduceAdd]
          refine wpInv_det (by kernel_rfl) (by kernel_rfl) ?_
          apply Exists.intro
          refine ⟨?_, ?_, ?_⟩
          · intro U W hC hH
            have hc1 := (bcell hC).1
            have hf1 := (bcell hC).2
            simp only [HypsU, predsOf, Region.binds, List.filterMap_cons, List.filterMap_nil, if_true, List.nil_append, List.cons_append, List.getD_cons_zero, List.getD_cons_succ] at hH
            simp only [fillPuts, Act.put, List.setIfInBounds_toArray, List.set_cons_zero, List.set_cons_succ, Nat.reduceAdd]
            go_wp2_with fail
            refine ⟨rfl, rfl, by (repeat' (first | (with_reducible exact Below.refl _ _) | (with_reducible assumption) | (with_reducible refine Below.alloc ?_ ?_ _) | (with_reducible refine below_grew ?_ ?_ _) | (with_reducible refine Below.setCell ?_ ?_ _) | (with_reducible refine Below.drew ?_) | (with_reducible refine below_drewN ?_ _) | omega | (simp; done) | (simp; omega))), ?_⟩
            conv => lhs; whnf
            try rfl
          · exact fun _ => rfl
          simp only [List.nil_append, List.cons_append, Nat.reduceAdd]
          refine wpInv_det (by kernel_rfl) (by kernel_rfl) ?_
          apply Exists.intro
          refine ⟨?_, ?_, ?_⟩
          · intro U W hC hH
            have hc1 := (bcell hC).1
            have hf1 := (bcell hC).2
            simp only [HypsU, predsOf, Region.binds, List.filterMap_cons, List.filterMap_nil, if_true, List.nil_append, List.cons_append, List.getD_cons_zero, List.getD_cons_succ] at hH
            simp only [fillPuts, Act.put, List.setIfInBounds_toArray, List.set_cons_zero, List.set_cons_succ, Nat.reduceAdd]
            go_wp2_with fail
            refine ⟨rfl, rfl, by (repeat' (first | (with_reducible exact Below.refl _ _) | (with_reducible assumption) | (with_reducible refine Below.alloc ?_ ?_ _) | (with_reducible refine below_grew ?_ ?_ _) | (with_reducible refine Below.setCell ?_ ?_ _) | (with_reducible refine Below.drew ?_) | (with_reducible refine below_drewN ?_ _) | omega | (simp; done) | (simp; omega))), ?_⟩
            conv => lhs; whnf
            try rfl
          · exact fun _ => rfl
          simp only [List.nil_append, List.cons_append, Nat.reduceAdd]
          refine wpInv_det (by kernel_rfl) (by kernel_rfl) ?_
          apply Exists.intro
          refine ⟨?_, ?_, ?_⟩
          · intro U W hC hH
            have hc1 := (bcell hC).1
            have hf1 := (bcell hC).2
            simp only [HypsU, predsOf, Region.binds, List.filterMap_cons, List.filterMap_nil, if_true, List.nil_append, List.cons_append, List.getD_cons_zero, List.getD_cons_succ] at hH
            simp only [fillPuts, Act.put, List.setIfInBounds_toArray, List.set_cons_zero, List.set_cons_succ, Nat.reduceAdd]
            go_wp2_with fail
            refine ⟨rfl, rfl, by (repeat' (first | (with_reducible exact Below.refl _ _) | (with_reducible assumption) | (with_reducible refine Below.alloc ?_ ?_ _) | (with_reducible refine below_grew ?_ ?_ _) | (with_reducible refine Below.setCell ?_ ?_ _) | (with_reducible refine Below.drew ?_) | (with_reducible refine below_drewN ?_ _) | omega | (simp; done) | (simp; omega))), ?_⟩
            conv => lhs; whnf
            try rfl
          · exact fun _ => rfl
          simp only [List.nil_append, List.cons_append, Nat.reduceAdd]
          refine wpInv_det (by kernel_rfl) (by kernel_rfl) ?_
          apply Exists.intro
          refine ⟨?_, ?_, ?_⟩
          · intro U W hC hH
            have hc1 := (bcell hC).1
            have hf1 := (bcell hC).2
            simp only [HypsU, predsOf, Region.binds, List.filterMap_cons, List.filterMap_nil, if_true, List.nil_append, List.cons_append, List.getD_cons_zero, List.getD_cons_succ] at hH
            simp only [fillPuts, Act.put, List.setIfInBounds_toArray, List.set_cons_zero, List.set_cons_succ, Nat.reduceAdd]
            go_wp2_with fail
            refine ⟨rfl, rfl, by (repeat' (first | (with_reducible exact Below.refl _ _) | (with_reducible assumption) | (with_reducible refine Below.alloc ?_ ?_ _) | (with_reducible refine below_grew ?_ ?_ _) | (with_reducible refine Below.setCell ?_ ?_ _) | (with_reducible refine Below.drew ?_) | (with_reducible refine below_drewN ?_ _) | omega | (simp; done) | (simp; omega))), ?_⟩
            conv => lhs; whnf
            try rfl
          · exact fun _ => rfl
          simp only [List.nil_append, List.cons_append, Nat.reduceAdd]
          refine wpInv_det (by kernel_rfl) (by kernel_rfl) ?_
          apply Exists.intro
          refine ⟨?_, ?_, ?_⟩
          · intro U W hC hH
            have hc1 := (bcell hC).1
            have hf1 := (bcell hC).2
            simp only [HypsU, predsOf, Region.binds, List.filterMap_cons, List.filterMap_nil, if_true, List.nil_append, List.cons_append, List.getD_cons_zero, List.getD_cons_succ] at hH
            simp only [fillPuts, Act.put, List.setIfInBounds_toArray, List.set_cons_zero, List.set_cons_succ, Nat.reduceAdd]
            go_wp2_with fail
            refine ⟨rfl, rfl, by (repeat' (first | (with_reducible exact Below.refl _ _) | (with_reducible assumption) | (with_reducible refine Below.alloc ?_ ?_ _) | (with_reducible refine below_grew ?_ ?_ _) | (with_reducible refine Below.setCell ?_ ?_ _) | (with_reducible refine Below.drew ?_) | (with_reducible refine below_drewN ?_ _) | omega | (simp; done) | (simp; omega))), ?_⟩
            conv => lhs; whnf
            try rfl
          · exact fun _ => rfl
          simp only [List.nil_append, List.cons_append, Nat.reduceAdd]
          refine wpInv_det (by kernel_rfl) (by kernel_rfl) ?_
          apply Exists.intro
          refine ⟨?_, ?_, ?_⟩
          · intro U W hC hH
            have hc1 := (bcell hC).1
            have hf1 := (bcell hC).2
            simp only [HypsU, predsOf, Region.binds, List.filterMap_cons, List.filterMap_nil, if_true, List.nil_append, List.cons_append, List.getD_cons_zero, List.getD_cons_succ] at hH
            simp only [fillPuts, Act.put, List.setIfInBounds_toArray, List.set_cons_zero, List.set_cons_succ, Nat.reduceAdd]
            go_wp2_with fail
            refine ⟨rfl, rfl, by (repeat' (first | (with_reducible exact Below.refl _ _) | (with_reducible assumption) | (with_reducible refine Below.alloc ?_ ?_ _) | (with_reducible refine below_grew ?_ ?_ _) | (with_reducible refine Below.setCell ?_ ?_ _) | (with_reducible refine Below.drew ?_) | (with_reducible refine below_drewN ?_ _) | omega | (simp; done) | (simp; omega))), ?_⟩
            conv => lhs; whnf
            try rfl
          · exact fun _ => rfl
          simp only [List.nil_append, List.cons_append, Nat.reduceAdd]
          refine wpInv_det (by kernel_rfl) (by kernel_rfl) ?_
          apply Exists.intro
          refine ⟨?_, ?_, ?_⟩
          · intro U W hC hH
            have hc1 := (bcell hC).1
            have hf1 := (bcell hC).2
            simp only [HypsU, predsOf, Region.binds, List.filterMap_cons, List.filterMap_nil, if_true, List.nil_append, List.cons_append, List.getD_cons_zero, List.getD_cons_succ] at hH
            simp only [fillPuts, Act.put, List.setIfInBounds_toArray, List.set_cons_zero, List.set_cons_succ, Nat.reduceAdd]
            go_wp2_with fail
            refine ⟨rfl, rfl, by (repeat' (first | (with_reducible exact Below.refl _ _) | (with_reducible assumption) | (with_reducible refine Below.alloc ?_ ?_ _) | (with_reducible refine below_grew ?_ ?_ _) | (with_reducible refine Below.setCell ?_ ?_ _) | (with_reducible refine Below.drew ?_) | (with_reducible refine below_drewN ?_ _) | omega | (simp; done) | (simp; omega))), ?_⟩
            conv => lhs; whnf
            try rfl
          · exact fun _ => rfl
          simp only [List.nil_append, List.cons_append, Nat.reduceAdd]
          simp only [List.nil_append, List.cons_append, Nat.reduceAdd, fillPuts, Act.put, List.setIfInBounds_toArray, List.set_cons_zero, List.set_cons_succ]
          rintro U Z hC ⟨h0, h1, h2, h3, h4, h5, h6, h7, h8, h9, h10, h11, -⟩ -
          simp only [h0, h1, h2, h3, h4, h5, h6, h7, h8, h9, h10, h11]
          have hZ := HE.out.keep hC
          have HZ := Lib.hid hZ
          have d0 := ag_cell hZ.out (c * 5 + b) hk
          have g0 := (block_facts hZ.out).2.1 (c * 5 + b)
          have dl := (block_facts hZ.out).2.2
          clear h0 h1 h2 h3 h4 h5 h6 h7 h8 h9 h10 h11 hC hZ HE q0 hl hl2
          go_wp2_with fail
          go_roundw
          case rel =>
            refine ⟨b + 1, by omega, rfl, ?_⟩
            have := HZ.out.store (c * 5 + b) hk (x % 32)
            rw [HS.out] at this
            exact this
          case measure => simp [intOf]; omega
        · obtain rfl : b = 5 := by omega
          clear hE hlb
          go_wp2_with fail
          go_roundw
          case rel => exact ⟨c + 1, by omega, rfl, by rw [show (c + 1) * 5 = c * 5 + 5 by omega]; exact HE.out⟩
          case measure => simp [intOf]; omega
    · have hE10 : EW w B (askC A n cap sz ch pr) (enTo pr 10) wr := by
        have := HE.out
        rwa [show c * 5 = 10 by omega] at this
      have HE := Lib.hid hE10
      clear hE10
      have hlt' : ¬ (c : Int) < 2 := by omega
      generalize hFE : enTo pr 10 = F10 at *
      have hEF : ag i64t 10 F10 = ag i64t 10 (enF pr) := by rw [← hFE]; exact ag_ext _ _ _ _ fun i hi => by unfold enTo enF; rw [if_pos hi]
      have HEF := Lib.hid hEF
      clear hFE hEF
      clear hlt
      go_wp2_with (first | ((with_reducible refine gate_ld TPv _ rfl ?_); refine load_row_g rfl TPv _ rfl (B + 1 + 1) rfl _ (ag i64t 10 F10) (0, 0) _ HE.out.out Tryd.underlying30 rfl (by rw [ag_size]; exact infoPv) ?_) | (refine wpList_store_mid rfl TPv _ _ rfl (B + 1) 0 (ag i64t 10 F10) rfl rfl ?hth ?hin3 ?hon ?_; (case hth => exact there_row HE.out.res _ (by rw [ag_size, ag_size]; exact Nat.le_refl _)); (case hin3 => rw [ag_size]; exact infoPv); (case hon => exact ag_one i64t 10 _)))
      have q1 := cells_all HE.out.res (N := 10) (ag_size _ _ _) (cs := ag i64t 10 F10) (ag_size _ _ _)
      have hfin := (only_setCells wr (B + 1) 0 (ag i64t 10 F10).toList).below HE.out.below (by omega)
      refine bodyPost_ret (v := .agg (ag i64t 10 F10)) ?_ rfl ⟨by rw [HEF.out], by rw [HBd.out]; exact hfin⟩
      exact results_cell_row rfl _ _ (B + 1) _ _ _ _ rfl q1 Tryd.underlying30 rfl (by rw [ag_size]; exact infoPv)
end Go.Proofs.YtbcdnbbpkikppaaDoor
end

section
namespace Go.Proofs.YtbcdnbbpkikppaaDoor
open Go.RowKit Go.BigFrame
set_option linter.unusedSimpArgs false
set_option linter.unusedVariables false
abbrev TRf := 37
theorem zeroRf_eq : Tryd.zeroCells37 = av 94 (frC zeroF) := by kernel_rfl
theorem infoRf : (Tryd.prog.info? TRf).map (·.size) = some 94 := by kernel_rfl
set_option maxHeartbeats 2000000 in
set_option maxRecDepth 100000 in
/-- A frame, as the document's answer has it. -/
theorem lawPlain16 (f : Nat → Int) (w : World) : Calls Tryd.prog 14 #[.agg (av 94 (frC f))] w fun e w' => e = .returned (.agg (av 94 (frC f))) ∧ Below w.heap.size w w' := by
  go_enter Tryd.func14, Tryd.ntmps14
  go_upto_region 1 with fail
  refine cut_world (fun W => Below w.heap.size w W ∧ Bv w.heap.size TFr 94 (frC f) W ∧ Bv (w.heap.size + 1) TRf 94 (frC zeroF) W) ⟨by (repeat' (first | (with_reducible exact Below.refl _ _) | (with_reducible assumption) | (with_reducible refine Below.alloc ?_ ?_ _) | (with_reducible refine below_grew ?_ ?_ _) | (with_reducible refine Below.setCell ?_ ?_ _) | (with_reducible refine Below.drew ?_) | (with_reducible refine below_drewN ?_ _) | omega | (simp; done) | (simp; omega))), alloc_two _ _ _, ?_⟩ ?_
  · have h := alloc_secondOf w (.cells (av 94 (frC f)) TFr (0, 0)) (.cells Tryd.zeroCells37 TRf (0, 0))
    rw [zeroRf_eq] at h ⊢
    exact h
  generalize hBd : w.heap.size = B at *
  have HBd := Lib.hid hBd
  clear hBd
  rintro V ⟨hV, hf, hz⟩
  have HV := Lib.hid hV
  have HF := Lib.hid hf
  have HZ := Lib.hid hz
  clear hV hf hz
  go_wp2_with (first | ((with_reducible refine gate_ld TFr _ rfl ?_); refine load_row_g rfl TFr _ rfl B rfl _ (av 94 (frC f)) (0, 0) _ HF.out Tryd.underlying35 rfl (by rw [av_size]; exact infoFr) ?_) | (refine wpList_store_mid rfl TRf _ _ rfl (B + 1) 0 (av 94 (frC f)) rfl rfl ?hth ?hin3 ?hon ?_; (case hth => exact there_row HZ.out _ (by rw [av_size, av_size]; exact Nat.le_refl _)); (case hin3 => rw [av_size]; exact infoRf); (case hon => exact fr_one f)))
  have q1 := cells_all HZ.out (N := 94) (av_size _ _) (cs := av 94 (frC f)) (av_size _ _)
  have hfin := (only_setCells V (B + 1) 0 (av 94 (frC f)).toList).below HV.out (by omega)
  refine bodyPost_ret (v := .agg (av 94 (frC f))) ?_ rfl ⟨rfl, by rw [HBd.out]; exact hfin⟩
  exact results_cell_row rfl _ _ (B + 1) _ _ _ _ rfl q1 Tryd.underlying37 rfl (by rw [av_size]; exact infoRf)
/-- The guess, in a place that there is. -/
def guessN (f prev : Nat → Int) (c b : Nat) : Int := if f 1 = 0 then prev (c * 5 + b) else if b = 0 then 8 else f (5 + c * 5 + (b - 1))
theorem fc_int (f : Nat → Int) (i : Nat) (h : ¬ i < 2) : frC f i = .int .i64 (f i) := fcell_int i h _
set_option maxHeartbeats 2000000 in
set_option maxRecDepth 100000 in
theorem refGuess (f prev : Nat → Int) (c b : Nat) (hc : c < 2) (hb : b < 5) (w : World) :
    Calls Tryd.prog 13 #[.agg (av 94 (frC f)), .agg (ag i64t 10 prev), .int .i64 c, .int .i64 b] w fun e w' => e = .returned (.int .i64 (guessN f prev c b)) ∧ Below w.heap.size w w' := by
  have hc' : (c : Int) < 2 := by omega
  have hb' : (b : Int) < 5 := by omega
  have hc0 : (0 : Int) ≤ c := by omega
  have hb0 : (0 : Int) ≤ b := by omega
  go_enter Tryd.func13, Tryd.ntmps13
  go_upto_region 1 with fail
  refine cut_world (fun W => Below w.heap.size w W ∧ Bv w.heap.size TRf 94 (frC f) W ∧ Bx (w.heap.size + 1) TPv i64t 10 prev W) ⟨by (repeat' (first | (with_reducible exact Below.refl _ _) | (with_reducible assumption) | (with_reducible refine Below.alloc ?_ ?_ _) | (with_reducible refine below_grew ?_ ?_ _) | (with_reducible refine Below.setCell ?_ ?_ _) | (with_reducible refine Below.drew ?_) | (with_reducible refine below_drewN ?_ _) | omega | (simp; done) | (simp; omega))), alloc_two _ _ _, alloc_secondOf _ _ _⟩ ?_
  generalize hBd : w.heap.size = B at *
  have HBd := Lib.hid hBd
  clear hBd
  rintro V ⟨hV, hf, hp⟩
  have HV := Lib.hid hV
  have c1 := hf.cell 1 (by omega)
  have cp := ag_cell hp (c * 5 + b) (by omega)
  have HG := Lib.hid (show guessN f prev c b = if f 1 = 0 then prev (c * 5 + b) else if b = 0 then 8 else f (5 + c * 5 + (b - 1)) from rfl)
  by_cases h1 : f 1 = 0
  · have e1 : frC f 1 = .bool false := by unfold frC fcell; rw [if_pos (by omega), h1]; rfl
    rw [e1] at c1
    have HG2 := Lib.hid (HG.out.trans (if_pos h1))
    clear hV hf hp h1 e1 HG
    go_wp2_with fail
    go_ret
    exact ⟨by rw [HG2.out]; rfl, by rw [HBd.out]; exact HV.out⟩
  · have e1 : frC f 1 = .bool true := by unfold frC fcell; rw [if_pos (by omega)]; simp [h1]
    rw [e1] at c1
    by_cases hz : b = 0
    · have HG2 := Lib.hid ((HG.out.trans (if_neg h1)).trans (if_pos hz))
      subst hz
      clear hV hf hp h1 e1 HG
      go_wp2_with fail
      go_ret
      exact ⟨by rw [HG2.out]; rfl, by rw [HBd.out]; exact HV.out⟩
    · have HG2 := Lib.hid ((HG.out.trans (if_neg h1)).trans (if_neg hz))
      obtain ⟨b2, rfl⟩ : ∃ b2, b = b2 + 1 := ⟨b - 1, by omega⟩
      have cf := hf.cell (5 + c * 5 + b2) (by omega)
      rw [fc_int f _ (by omega)] at cf
      have hq : ((b2 + 1 : Nat) : Int) = (b2 : Int) + 1 := by omega
      have hz' : ¬ ((b2 : Int) + 1 = 0) := by omega
      have hz2 : ((b2 : Int) + 1 == 0) = false := by simpa using hz'
      clear hV hf hp h1 e1 HG hz
      go_wp2_with fail
      go_ret
      exact ⟨by rw [HG2.out]; rfl, by rw [HBd.out]; exact HV.out⟩
/-- The guess, anywhere. -/
def guessZ (f prev : Nat → Int) (ch band : Int) : Int := if 0 ≤ ch ∧ ch < 2 ∧ 0 ≤ band ∧ band < 5 then guessN f prev ch.toNat band.toNat else 0
set_option maxHeartbeats 4000000 in
set_option maxRecDepth 100000 in
theorem frGuess (f prev : Nat → Int) (ch band : Int) (w : World) :
    Calls Tryd.prog 15 #[.agg (av 94 (frC f)), .agg (ag i64t 10 prev), .int .i64 ch, .int .i64 band] w fun e w' => e = .returned (.int .i64 (guessZ f prev ch band)) ∧ Below w.heap.size w w' := by
  by_cases hin : 0 ≤ ch ∧ ch < 2 ∧ 0 ≤ band ∧ band < 5
  · obtain ⟨hc0, hc', hb0, hb'⟩ := hin
    obtain ⟨c, rfl⟩ := Int.eq_ofNat_of_zero_le hc0
    obtain ⟨b, rfl⟩ := Int.eq_ofNat_of_zero_le hb0
    rw [show guessZ f prev c b = guessN f prev c b from if_pos ⟨hc0, hc', hb0, hb'⟩]
    go_enter Tryd.func15, Tryd.ntmps15
    go_upto_region 1 with fail
    refine cut_world (fun W => Below w.heap.size w W ∧ Bv w.heap.size TFr 94 (frC f) W ∧ Bx (w.heap.size + 1) TPv i64t 10 prev W) ⟨by (repeat' (first | (with_reducible exact Below.refl _ _) | (with_reducible assumption) | (with_reducible refine Below.alloc ?_ ?_ _) | (with_reducible refine below_grew ?_ ?_ _) | (with_reducible refine Below.setCell ?_ ?_ _) | (with_reducible refine Below.drew ?_) | (with_reducible refine below_drewN ?_ _) | omega | (simp; done) | (simp; omega))), alloc_two _ _ _, alloc_secondOf _ _ _⟩ ?_
    generalize hBd : w.heap.size = B at *
    have HBd := Lib.hid hBd
    clear hBd
    rintro V ⟨hV, hf, hp⟩
    have HV := Lib.hid hV
    have c1 := hf.cell 1 (by omega)
    have cp := ag_cell hp (c * 5 + b) (by omega)
    have HG := Lib.hid (show guessN f prev c b = if f 1 = 0 then prev (c * 5 + b) else if b = 0 then 8 else f (5 + c * 5 + (b - 1)) from rfl)
    by_cases h1 : f 1 = 0
    · have e1 : frC f 1 = .bool false := by unfold frC fcell; rw [if_pos (by omega), h1]; rfl
      rw [e1] at c1
      have HG2 := Lib.hid (HG.out.trans (if_pos h1))
      clear hV hf hp h1 e1 HG
      go_wp2_with fail
      go_ret
      exact ⟨by rw [HG2.out]; rfl, by rw [HBd.out]; exact HV.out⟩
    · have e1 : frC f 1 = .bool true := by unfold frC fcell; rw [if_pos (by omega)]; simp [h1]
      rw [e1] at c1
      by_cases hz : b = 0
      · have HG2 := Lib.hid ((HG.out.trans (if_neg h1)).trans (if_pos hz))
        subst hz
        clear hV hf hp h1 e1 HG
        go_wp2_with fail
        go_ret
        exact ⟨by rw [HG2.out]; rfl, by rw [HBd.out]; exact HV.out⟩
      · have HG2 := Lib.hid ((HG.out.trans (if_neg h1)).trans (if_neg hz))
        obtain ⟨b2, rfl⟩ : ∃ b2, b = b2 + 1 := ⟨b - 1, by omega⟩
        have cf := hf.cell (5 + c * 5 + b2) (by omega)
        rw [fc_int f _ (by omega)] at cf
        have hq : ((b2 + 1 : Nat) : Int) = (b2 : Int) + 1 := by omega
        have hz' : ¬ ((b2 : Int) + 1 = 0) := by omega
        have hz2 : ((b2 : Int) + 1 == 0) = false := by simpa using hz'
        clear hV hf hp h1 e1 HG hz
        go_wp2_with fail
        go_ret
        exact ⟨by rw [HG2.out]; rfl, by rw [HBd.out]; exact HV.out⟩
  · rw [show guessZ f prev ch band = 0 from if_neg hin]
    by_cases k0 : ch < 0
    · clear hin
      go_enter Tryd.func15, Tryd.ntmps15
      go_wp2_with fail
      go_ret
      exact ⟨rfl, by (repeat' (first | (with_reducible exact Below.refl _ _) | (with_reducible assumption) | (with_reducible refine Below.alloc ?_ ?_ _) | (with_reducible refine below_grew ?_ ?_ _) | (with_reducible refine Below.setCell ?_ ?_ _) | (with_reducible refine Below.drew ?_) | (with_reducible refine below_drewN ?_ _) | omega | (simp; done) | (simp; omega)))⟩
    · by_cases k1 : 2 ≤ ch
      · clear hin
        go_enter Tryd.func15, Tryd.ntmps15
        go_wp2_with fail
        go_ret
        exact ⟨rfl, by (repeat' (first | (with_reducible exact Below.refl _ _) | (with_reducible assumption) | (with_reducible refine Below.alloc ?_ ?_ _) | (with_reducible refine below_grew ?_ ?_ _) | (with_reducible refine Below.setCell ?_ ?_ _) | (with_reducible refine Below.drew ?_) | (with_reducible refine below_drewN ?_ _) | omega | (simp; done) | (simp; omega)))⟩
      · by_cases k2 : band < 0
        · clear hin
          go_enter Tryd.func15, Tryd.ntmps15
          go_wp2_with fail
          go_ret
          exact ⟨rfl, by (repeat' (first | (with_reducible exact Below.refl _ _) | (with_reducible assumption) | (with_reducible refine Below.alloc ?_ ?_ _) | (with_reducible refine below_grew ?_ ?_ _) | (with_reducible refine Below.setCell ?_ ?_ _) | (with_reducible refine Below.drew ?_) | (with_reducible refine below_drewN ?_ _) | omega | (simp; done) | (simp; omega)))⟩
        · have k3 : 5 ≤ band := by omega
          clear hin
          go_enter Tryd.func15, Tryd.ntmps15
          go_wp2_with fail
          go_ret
          exact ⟨rfl, by (repeat' (first | (with_reducible exact Below.refl _ _) | (with_reducible assumption) | (with_reducible refine Below.alloc ?_ ?_ _) | (with_reducible refine below_grew ?_ ?_ _) | (with_reducible refine Below.setCell ?_ ?_ _) | (with_reducible refine Below.drew ?_) | (with_reducible refine below_drewN ?_ _) | omega | (simp; done) | (simp; omega)))⟩
/-- How many fine bits. -/
def finesF (l c : Int) : Int := if c < 1 then 0 else min (max l 0 / 64 / c) 3
set_option maxHeartbeats 1000000 in
theorem frFines (l c : Int) (hl : -9223372036854775808 ≤ l ∧ l ≤ 9223372036854775807) (w : World) : Calls Tryd.prog 16 #[.int .i64 l, .int .i64 c] w fun e w' => e = .returned (.int .i64 (finesF l c)) ∧ Below w.heap.size w w' := by
  by_cases h : c < 1
  · rw [show finesF l c = 0 from if_pos h]
    go_enter Tryd.func16, Tryd.ntmps16
    go_wp2_with fail
    go_ret
    exact ⟨rfl, by (repeat' (first | (with_reducible exact Below.refl _ _) | (with_reducible assumption) | (with_reducible refine Below.alloc ?_ ?_ _) | (with_reducible refine below_grew ?_ ?_ _) | (with_reducible refine Below.setCell ?_ ?_ _) | (with_reducible refine Below.drew ?_) | (with_reducible refine below_drewN ?_ _) | omega | (simp; done) | (simp; omega)))⟩
  · have HF := Lib.hid (show finesF l c = min (max l 0 / 64 / c) 3 from if_neg h)
    have h1 : (max l 0).tdiv 64 = max l 0 / 64 := Int.tdiv_eq_ediv_of_nonneg (by omega)
    have g0 : 0 ≤ max l 0 / 64 := by omega
    have g1 : max l 0 / 64 ≤ 9223372036854775807 := by omega
    have h2 : (max l 0 / 64).tdiv c = max l 0 / 64 / c := Int.tdiv_eq_ediv_of_nonneg g0
    have g2 : 0 ≤ max l 0 / 64 / c := Int.ediv_nonneg g0 (by omega)
    have g3 : max l 0 / 64 / c ≤ max l 0 / 64 := Int.ediv_le_self _ g0
    have hc : ¬ c = 0 := by omega
    have m0 : 0 ≤ max l 0 := by omega
    have m1 : max l 0 ≤ 9223372036854775807 := by omega
    go_enter Tryd.func16, Tryd.ntmps16
    go_wp2_with fail
    go_ret
    exact ⟨by rw [HF.out]; rfl, by (repeat' (first | (with_reducible exact Below.refl _ _) | (with_reducible assumption) | (with_reducible refine Below.alloc ?_ ?_ _) | (with_reducible refine below_grew ?_ ?_ _) | (with_reducible refine Below.setCell ?_ ?_ _) | (with_reducible refine Below.drew ?_) | (with_reducible refine below_drewN ?_ _) | omega | (simp; done) | (simp; omega)))⟩
set_option maxHeartbeats 1000000 in
theorem refFines (l c : Int) (hl : -9223372036854775808 ≤ l ∧ l ≤ 9223372036854775807) (w : World) : Calls Tryd.prog 17 #[.int .i64 l, .int .i64 c] w fun e w' => e = .returned (.int .i64 (finesF l c)) ∧ Below w.heap.size w w' := by
  by_cases h : c < 1
  · rw [show finesF l c = 0 from if_pos h]
    by_cases h0 : l ≤ 0
    · go_enter Tryd.func17, Tryd.ntmps17
      go_wp2_with fail
      go_ret
      exact ⟨rfl, by (repeat' (first | (with_reducible exact Below.refl _ _) | (with_reducible assumption) | (with_reducible refine Below.alloc ?_ ?_ _) | (with_reducible refine below_grew ?_ ?_ _) | (with_reducible refine Below.setCell ?_ ?_ _) | (with_reducible refine Below.drew ?_) | (with_reducible refine below_drewN ?_ _) | omega | (simp; done) | (simp; omega)))⟩
    · go_enter Tryd.func17, Tryd.ntmps17
      go_wp2_with fail
      go_ret
      exact ⟨rfl, by (repeat' (first | (with_reducible exact Below.refl _ _) | (with_reducible assumption) | (with_reducible refine Below.alloc ?_ ?_ _) | (with_reducible refine below_grew ?_ ?_ _) | (with_reducible refine Below.setCell ?_ ?_ _) | (with_reducible refine Below.drew ?_) | (with_reducible refine below_drewN ?_ _) | omega | (simp; done) | (simp; omega)))⟩
  · have HF := Lib.hid (show finesF l c = min (max l 0 / 64 / c) 3 from if_neg h)
    by_cases h0 : l ≤ 0
    · have e0 : max l 0 = 0 := by omega
      rw [e0] at HF
      have HF2 := Lib.hid (show finesF l c = 0 by rw [HF.out]; simp; rfl)
      go_enter Tryd.func17, Tryd.ntmps17
      go_wp2_with fail
      go_ret
      exact ⟨by rw [HF2.out]; rfl, by (repeat' (first | (with_reducible exact Below.refl _ _) | (with_reducible assumption) | (with_reducible refine Below.alloc ?_ ?_ _) | (with_reducible refine below_grew ?_ ?_ _) | (with_reducible refine Below.setCell ?_ ?_ _) | (with_reducible refine Below.drew ?_) | (with_reducible refine below_drewN ?_ _) | omega | (simp; done) | (simp; omega)))⟩
    · have e0 : max l 0 = l := by omega
      rw [e0] at HF
      have h1 : l.tdiv 64 = l / 64 := Int.tdiv_eq_ediv_of_nonneg (by omega)
      have g0 : 0 ≤ l / 64 := by omega
      have h2 : (l / 64).tdiv c = l / 64 / c := Int.tdiv_eq_ediv_of_nonneg g0
      have g2 : 0 ≤ l / 64 / c := Int.ediv_nonneg g0 (by omega)
      have g3 : l / 64 / c ≤ l / 64 := Int.ediv_le_self _ g0
      have hc : ¬ c = 0 := by omega
      clear e0
      by_cases h3 : 3 < l / 64 / c
      · have HF2 := Lib.hid (show finesF l c = 3 by rw [HF.out]; omega)
        go_enter Tryd.func17, Tryd.ntmps17
        go_wp2_with fail
        go_ret
        exact ⟨by rw [HF2.out]; rfl, by (repeat' (first | (with_reducible exact Below.refl _ _) | (with_reducible assumption) | (with_reducible refine Below.alloc ?_ ?_ _) | (with_reducible refine below_grew ?_ ?_ _) | (with_reducible refine Below.setCell ?_ ?_ _) | (with_reducible refine Below.drew ?_) | (with_reducible refine below_drewN ?_ _) | omega | (simp; done) | (simp; omega)))⟩
      · have HF2 := Lib.hid (show finesF l c = l / 64 / c by rw [HF.out]; omega)
        go_enter Tryd.func17, Tryd.ntmps17
        go_wp2_with fail
        go_ret
        exact ⟨by rw [HF2.out]; rfl, by (repeat' (first | (with_reducible exact Below.refl _ _) | (with_reducible assumption) | (with_reducible refine Below.alloc ?_ ?_ _) | (with_reducible refine below_grew ?_ ?_ _) | (with_reducible refine Below.setCell ?_ ?_ _) | (with_reducible refine Below.drew ?_) | (with_reducible refine below_drewN ?_ _) | omega | (simp; done) | (simp; omega)))⟩
end Go.Proofs.YtbcdnbbpkikppaaDoor
end

section
namespace Go.Proofs.YtbcdnbbpkikppaaDoor
open Go.RowKit Go.BigFrame
set_option linter.unusedSimpArgs false
set_option linter.unusedVariables false
abbrev TRd := 101
/-- What of a reader stays: its block, its bytes and where they lie. -/
structure RC where
  rb : Nat
  g : Nat
  A : Option Addr
  cap : Nat
  n : Nat
  b : Nat → Int
/-- Where it stands. -/
structure RS where
  taken : Nat
  raws : Nat
  rng : Int
  val : Int
def RC.byte (c : RC) (i : Nat) : Int := if i < c.n then c.b i else 0
def rdCells (c : RC) (s : RS) : Array Value := #[.slice c.A c.n c.cap, .int .i64 s.taken, .int .i64 s.raws, .int .u32 s.rng, .int .u32 s.val]
structure RdAt (c : RC) (s : RS) (w : World) : Prop where
  blk : w.heap[c.rb]? = some (.cells (rdCells c s) TRd (0, 0))
  adr : 0 < c.n → c.A = some ⟨c.g, 0, none⟩ ∧ c.g < w.heap.size ∧ c.g ≠ c.rb
  byt : ∀ i, i < c.n → w.cell? ⟨c.g, i, none⟩ = some (.int .u8 (c.b i)) ∧ 0 ≤ c.b i ∧ c.b i ≤ 255
theorem RC.byte_bd {c : RC} {s : RS} {w : World} (h : RdAt c s w) (i : Nat) : 0 ≤ c.byte i ∧ c.byte i ≤ 255 := by
  unfold RC.byte
  split
  · rename_i hi; exact (h.byt i hi).2
  · omega
/-- What leaves the bytes, and lays the reader so, is fine. -/
theorem RdAt.turn {c : RC} {s s' : RS} {w w' : World} (h : RdAt c s w) (hc : Chg [c.rb] w w') (hb : w'.heap[c.rb]? = some (.cells (rdCells c s') TRd (0, 0))) : RdAt c s' w' :=
  ⟨hb, fun hn => by obtain ⟨h1, h2, h3⟩ := h.adr hn; exact ⟨h1, Nat.lt_of_lt_of_le h2 hc.size, h3⟩, fun i hi => by
    obtain ⟨h1, h2, h3⟩ := h.adr (by omega)
    exact ⟨(hc.cell c.g i h2 (by simpa using h3)).trans (h.byt i hi).1, (h.byt i hi).2⟩⟩
theorem RdAt.keep {c : RC} {s : RS} {l : List Nat} {w w' : World} (h : RdAt c s w) (hc : Chg l w w') (h1 : c.rb ∉ l) (h2 : c.g ∉ l) : RdAt c s w' :=
  ⟨hc.keepB h.blk h1, fun hn => by obtain ⟨a1, a2, a3⟩ := h.adr hn; exact ⟨a1, Nat.lt_of_lt_of_le a2 hc.size, a3⟩, fun i hi => by
    obtain ⟨a1, a2, a3⟩ := h.adr (by omega)
    exact ⟨(hc.cell c.g i a2 h2).trans (h.byt i hi).1, (h.byt i hi).2⟩⟩
theorem RdAt.keep0 {c : RC} {s : RS} {w w' : World} (h : RdAt c s w) (hb : Below w.heap.size w w') : RdAt c s w' := h.keep (l := []) (Chg.of_below hb) (by simp) (by simp)
theorem RdAt.c0 {c s} {w : World} (h : RdAt c s w) : w.cell? ⟨c.rb, 0, none⟩ = some (.slice c.A c.n c.cap) := (block_facts h.blk).1 0
theorem RdAt.c1 {c s} {w : World} (h : RdAt c s w) : w.cell? ⟨c.rb, 1, none⟩ = some (.int .i64 s.taken) := (block_facts h.blk).1 1
theorem RdAt.c2 {c s} {w : World} (h : RdAt c s w) : w.cell? ⟨c.rb, 2, none⟩ = some (.int .i64 s.raws) := (block_facts h.blk).1 2
theorem RdAt.c3 {c s} {w : World} (h : RdAt c s w) : w.cell? ⟨c.rb, 3, none⟩ = some (.int .u32 s.rng) := (block_facts h.blk).1 3
theorem RdAt.c4 {c s} {w : World} (h : RdAt c s w) : w.cell? ⟨c.rb, 4, none⟩ = some (.int .u32 s.val) := (block_facts h.blk).1 4
theorem RdAt.fz {c s} {w : World} (h : RdAt c s w) (i : Nat) : w.frozen? ⟨c.rb, i, none⟩ = false := (block_facts h.blk).2.1 i
theorem RdAt.lt {c s} {w : World} (h : RdAt c s w) : c.rb < w.heap.size := (block_facts h.blk).2.2
theorem RdAt.set1 {c s} {w : World} (h : RdAt c s w) (x : Nat) : RdAt c { s with taken := x } (w.setCell ⟨c.rb, 1, none⟩ (.int .i64 x)) :=
  h.turn ((Chg.refl _ _).setCell _ (by simp)) (setCell_own _ _ _ _ _ _ _ h.blk)
theorem RdAt.set3 {c s} {w : World} (h : RdAt c s w) (x : Int) : RdAt c { s with rng := x } (w.setCell ⟨c.rb, 3, none⟩ (.int .u32 x)) :=
  h.turn ((Chg.refl _ _).setCell _ (by simp)) (setCell_own _ _ _ _ _ _ _ h.blk)
theorem RdAt.set4 {c s} {w : World} (h : RdAt c s w) (x : Int) : RdAt c { s with val := x } (w.setCell ⟨c.rb, 4, none⟩ (.int .u32 x)) :=
  h.turn ((Chg.refl _ _).setCell _ (by simp)) (setCell_own _ _ _ _ _ _ _ h.blk)
set_option maxHeartbeats 2000000 in
set_option maxRecDepth 100000 in
theorem rdNext (c : RC) (s : RS) (ht : s.taken ≤ 1000000) (w : World) (h : RdAt c s w) (hcn : c.n ≤ 1000000) :
    Calls Tryd.prog 44 #[.pointer (some ⟨c.rb, 0, none⟩)] w fun e w' => e = .returned (.int .u32 (c.byte s.taken)) ∧ RdAt c { s with taken := s.taken + 1 } w' ∧ Chg [c.rb] w w' := by
  have H := Lib.hid h
  have c1 := h.c1
  have f1 := h.fz 1
  have hl := h.lt
  obtain ⟨tk, htk⟩ : ∃ t, s.taken = t := ⟨_, rfl⟩
  rw [htk] at c1 ht ⊢
  have HTK := Lib.hid htk
  clear h htk
  go_enter Tryd.func44, Tryd.ntmps44
  go_upto_region 2 with fail
  have h2 := H.out.set1 (tk + 1)
  refine cut_world (fun W => RdAt c { s with taken := tk + 1 } W ∧ Chg [c.rb] w W) ⟨h2, (Chg.refl _ _).setCell _ (by simp)⟩ ?_
  clear c1 f1 hl H h2
  rintro V ⟨hR, hC⟩
  have HR := Lib.hid hR
  have HC := Lib.hid hC
  have c0 := hR.c0
  have c1 := hR.c1
  simp only at c1
  clear hR hC
  by_cases hlt : tk < c.n
  · obtain ⟨hA, hg, hgr⟩ := HR.out.adr (by omega)
    obtain ⟨hb, hb0, hb1⟩ := HR.out.byt tk hlt
    have HB := Lib.hid (show c.byte tk = c.b tk by unfold RC.byte; rw [if_pos hlt])
    rw [hA] at c0
    have hlt' : (tk : Int) < c.n := by omega
    go_quiet (fail)
    go_upto_region 4 with fail
    refine cut_world (fun W => RdAt c { s with taken := tk + 1 } W ∧ Chg [c.rb] w W) ⟨HR.out.keep0 (below_drewN (Below.refl _ _) _), HC.out.drewN _⟩ ?_
    clear HR HC c0 c1 hA hb hg
    rintro Z ⟨hR, hC⟩
    obtain ⟨hA, hg, hgr⟩ := hR.adr (by omega)
    obtain ⟨hb, -, -⟩ := hR.byt tk hlt
    have HR := Lib.hid hR
    have HC := Lib.hid hC
    have c0 := hR.c0
    have c1 := hR.c1
    simp only at c1
    rw [hA] at c0
    clear hR hC hA
    generalize c.n = n at *
    generalize c.cap = cap at *
    generalize c.b tk = bt at *
    have hlt' : (tk : Int) < n := by omega
    go_quiet (fail)
    go_wp2_with fail
    go_ret
    exact ⟨by rw [HB.out]; rfl, HR.out.keep0 (below_drewN (Below.refl _ _) _), HC.out.drewN _⟩
  · have HB := Lib.hid (show c.byte tk = 0 by unfold RC.byte; rw [if_neg hlt])
    have hlt' : ¬ (tk : Int) < c.n := by omega
    generalize c.n = n at *
    generalize c.cap = cap at *
    generalize c.A = A at *
    go_quiet (fail)
    go_wp2_with fail
    go_ret
    exact ⟨by rw [HB.out]; rfl, HR.out.keep0 (below_drewN (Below.refl _ _) _), HC.out.drewN _⟩
theorem rdRight (t : Int) (w : World) : Calls Tryd.prog 141 #[.int .i64 t] w fun e w' => e = .returned (.bool (decide (1 ≤ t ∧ t ≤ 4096))) ∧ Below w.heap.size w w' := by
  by_cases h1 : 1 ≤ t
  · by_cases h2 : t ≤ 4096
    · have e := decide_eq_true (show 1 ≤ t ∧ t ≤ 4096 from ⟨h1, h2⟩)
      rw [e]
      clear e
      go_enter Tryd.func141, Tryd.ntmps141
      go_wp2_with fail
      go_ret
      exact ⟨rfl, by (repeat' (first | (with_reducible exact Below.refl _ _) | (with_reducible assumption) | (with_reducible refine Below.alloc ?_ ?_ _) | (with_reducible refine below_grew ?_ ?_ _) | (with_reducible refine Below.setCell ?_ ?_ _) | (with_reducible refine Below.drew ?_) | (with_reducible refine below_drewN ?_ _) | omega | (simp; done) | (simp; omega)))⟩
    · have e := decide_eq_false (show ¬ (1 ≤ t ∧ t ≤ 4096) by omega)
      rw [e]
      clear e
      go_enter Tryd.func141, Tryd.ntmps141
      go_wp2_with fail
      go_ret
      exact ⟨rfl, by (repeat' (first | (with_reducible exact Below.refl _ _) | (with_reducible assumption) | (with_reducible refine Below.alloc ?_ ?_ _) | (with_reducible refine below_grew ?_ ?_ _) | (with_reducible refine Below.setCell ?_ ?_ _) | (with_reducible refine Below.drew ?_) | (with_reducible refine below_drewN ?_ _) | omega | (simp; done) | (simp; omega)))⟩
  · have e := decide_eq_false (show ¬ (1 ≤ t ∧ t ≤ 4096) by omega)
    rw [e]
    clear e
    go_enter Tryd.func141, Tryd.ntmps141
    go_wp2_with fail
    go_ret
    exact ⟨rfl, by (repeat' (first | (with_reducible exact Below.refl _ _) | (with_reducible assumption) | (with_reducible refine Below.alloc ?_ ?_ _) | (with_reducible refine below_grew ?_ ?_ _) | (with_reducible refine Below.setCell ?_ ?_ _) | (with_reducible refine Below.drew ?_) | (with_reducible refine below_drewN ?_ _) | omega | (simp; done) | (simp; omega)))⟩
set_option maxHeartbeats 1000000 in
theorem rdRng (c : RC) (s : RS) (w : World) (h : RdAt c s w) : Calls Tryd.prog 139 #[.pointer (some ⟨c.rb, 0, none⟩)] w fun e w' => e = .returned (.int .u32 s.rng) ∧ Below w.heap.size w w' := by
  have c3 := h.c3
  clear h
  generalize s.rng = x at *
  generalize c.rb = rb at *
  go_enter Tryd.func139, Tryd.ntmps139
  go_wp2_with fail
  go_ret
  exact ⟨rfl, by (repeat' (first | (with_reducible exact Below.refl _ _) | (with_reducible assumption) | (with_reducible refine Below.alloc ?_ ?_ _) | (with_reducible refine below_grew ?_ ?_ _) | (with_reducible refine Below.setCell ?_ ?_ _) | (with_reducible refine Below.drew ?_) | (with_reducible refine below_drewN ?_ _) | omega | (simp; done) | (simp; omega)))⟩
def RS.left (c : RC) (s : RS) : Int := 8 * ((c.n : Int) - s.taken) - s.raws
set_option maxHeartbeats 1000000 in
theorem rdLeft (c : RC) (s : RS) (w : World) (h : RdAt c s w) (hn : c.n ≤ 1000000) (ht : s.taken ≤ 1000000) (hr : s.raws ≤ 1000000) : Calls Tryd.prog 20 #[.pointer (some ⟨c.rb, 0, none⟩)] w fun e w' => e = .returned (.int .i64 (s.left c)) ∧ Below w.heap.size w w' := by
  have c0 := h.c0
  have c1 := h.c1
  have c2 := h.c2
  have HL := Lib.hid (show s.left c = 8 * ((c.n : Int) - s.taken) - s.raws from rfl)
  clear h
  generalize c.rb = rb at *
  generalize s.left c = L at *
  generalize c.A = A at *
  generalize c.cap = cap at *
  generalize c.n = n at *
  generalize s.taken = tk at *
  generalize s.raws = rw at *
  have n0 : (0 : Int) ≤ n ∧ (n : Int) ≤ 1000000 := by omega
  have n1 : (0 : Int) ≤ tk ∧ (tk : Int) ≤ 1000000 := by omega
  have n2 : (0 : Int) ≤ rw ∧ (rw : Int) ≤ 1000000 := by omega
  obtain ⟨n00, n01⟩ := n0
  obtain ⟨n10, n11⟩ := n1
  obtain ⟨n20, n21⟩ := n2
  go_enter Tryd.func20, Tryd.ntmps20
  go_upto_region 1 with fail
  go_quiet (fail)
  go_wp2_with fail
  go_ret
  exact ⟨by rw [HL.out]; rfl, below_drewN (Below.refl _ _) _⟩
end Go.Proofs.YtbcdnbbpkikppaaDoor
end

section
namespace Go.Proofs.YtbcdnbbpkikppaaDoor
open Go.RowKit Go.BigFrame
set_option linter.unusedSimpArgs false
set_option linter.unusedVariables false
structure RsOk (s : RS) : Prop where
  r0 : 65536 < s.rng
  r1 : s.rng ≤ 16777216
  v0 : 0 ≤ s.val
  v1 : s.val < s.rng
def getF (s : RS) (t : Int) : Int := if 1 ≤ t ∧ t ≤ 4096 then min (s.val / (s.rng / t)) (t - 1) else 0
/-- A part of the range. -/
theorem part_bd (r t : Int) (h0 : 65536 < r) (h1 : r ≤ 16777216) (h2 : 1 ≤ t) (h3 : t ≤ 4096) : 16 ≤ r / t ∧ r / t ≤ 16777216 ∧ (r / t) * t ≤ r ∧ 0 ≤ r - (r / t) * t ∧ r - (r / t) * t < t := by
  have a := Int.emod_def r t
  have b := Int.emod_nonneg r (show t ≠ 0 by omega)
  have c := Int.emod_lt_of_pos r (show 0 < t by omega)
  rw [Int.mul_comm t] at a
  refine ⟨?_, ?_, by omega, by omega, by omega⟩
  · rw [Int.le_ediv_iff_mul_le (by omega)]; omega
  · have : r / t ≤ r := Int.ediv_le_self t (by omega)
    omega
set_option maxHeartbeats 2000000 in
set_option maxRecDepth 100000 in
theorem rdGet (c : RC) (s : RS) (hok : RsOk s) (t : Int) (w : World) (h : RdAt c s w) : Calls Tryd.prog 137 #[.pointer (some ⟨c.rb, 0, none⟩), .int .i64 t] w fun e w' => e = .returned (.int .i64 (getF s t)) ∧ Below w.heap.size w w' := by
  have hri := Lib.hid (fun w => rdRight t w)
  by_cases hb : 1 ≤ t ∧ t ≤ 4096
  · have HG := Lib.hid (show getF s t = min (s.val / (s.rng / t)) (t - 1) by unfold getF; rw [if_pos hb])
    have e := decide_eq_true hb
    rw [e] at hri
    obtain ⟨t1, t2⟩ := hb
    obtain ⟨p1, p2, -, -, -⟩ := part_bd s.rng t hok.r0 hok.r1 t1 t2
    obtain ⟨r0, r1, v0, v1⟩ := hok
    have H := Lib.hid h
    clear h e
    go_enter Tryd.func137, Tryd.ntmps137
    go_wp2_with fail
    refine (hri.out _).mono ?_
    rintro e w1 ⟨rfl, hb1⟩
    go_upto_region 3 with fail
    refine cut_world (fun W => RdAt c s W ∧ Below w.heap.size w W) ⟨H.out.keep0 hb1, hb1⟩ ?_
    clear hb1 H
    rintro V ⟨hR, hB⟩
    have HB := Lib.hid hB
    have c3 := hR.c3
    have c4 := hR.c4
    have hl := hR.lt
    clear hR hB
    generalize s.rng = r at *
    generalize s.val = v at *
    generalize c.rb = rb at *
    have hq1 : r.tdiv t = r / t := Int.tdiv_eq_ediv_of_nonneg (by omega)
    have hq2 : v.tdiv (r / t) = v / (r / t) := Int.tdiv_eq_ediv_of_nonneg (by omega)
    have ht0 : ¬ t = 0 := by omega
    have hd0 : 0 ≤ v / (r / t) := Int.ediv_nonneg v0 (by omega)
    have hd1 : v / (r / t) ≤ v := Int.ediv_le_self _ v0
    refine wp_region_inv [] (fun W => Below V.heap.size V W) (fun W W' => Below W.heap.size W W') 16 (by kernel_rfl) (by kernel_rfl) (by kernel_rfl) ((Below.refl _ _).drew) (fun W W' h h' => h.trans (h'.mono h.size)) (fun _ _ h => h.size) ?_
    simp only [List.take_succ_cons, List.take_zero, List.drop_succ_cons, List.drop_zero]
    refine wpInv_det (by kernel_rfl) (by kernel_rfl) ?_
    apply Exists.intro
    refine ⟨?_, ?_, ?_⟩
    · intro U W hC hH
      have hc1 := (bcell hC).1
      have hf1 := (bcell hC).2
      simp only [HypsU, predsOf, Region.binds, List.filterMap_cons, List.filterMap_nil, if_true, List.nil_append, List.cons_append, List.getD_cons_zero, List.getD_cons_succ] at hH
      simp only [fillPuts, Act.put, List.setIfInBounds_toArray, List.set_cons_zero, List.set_cons_succ, Nat.reduceAdd]
      go_wp2_with fail
      refine ⟨rfl, rfl, by (repeat' (first | (with_reducible exact Below.refl _ _) | (with_reducible assumption) | (with_reducible refine Below.alloc ?_ ?_ _) | (with_reducible refine below_grew ?_ ?_ _) | (with_reducible refine Below.setCell ?_ ?_ _) | (with_reducible refine Below.drew ?_) | (with_reducible refine below_drewN ?_ _) | omega | (simp; done) | (simp; omega))), ?_⟩
      conv => lhs; whnf
      try rfl
    · exact fun _ => rfl
    simp only [List.nil_append, List.cons_append, Nat.reduceAdd]
    refine wpInv_det (by kernel_rfl) (by kernel_rfl) ?_
    apply Exists.intro
    refine ⟨?_, ?_, ?_⟩
    · intro U W hC hH
      have hc1 := (bcell hC).1
      have hf1 := (bcell hC).2
      simp only [HypsU, predsOf, Region.binds, List.filterMap_cons, List.filterMap_nil, if_true, List.nil_append, List.cons_append, List.getD_cons_zero, List.getD_cons_succ] at hH
      simp only [fillPuts, Act.put, List.setIfInBounds_toArray, List.set_cons_zero, List.set_cons_succ, Nat.reduceAdd]
      go_wp2_with fail
      refine ⟨rfl, rfl, by (repeat' (first | (with_reducible exact Below.refl _ _) | (with_reducible assumption) | (with_reducible refine Below.alloc ?_ ?_ _) | (with_reducible refine below_grew ?_ ?_ _) | (with_reducible refine Below.setCell ?_ ?_ _) | (with_reducible refine Below.drew ?_) | (with_reducible refine below_drewN ?_ _) | omega | (simp; done) | (simp; omega))), ?_⟩
      conv => lhs; whnf
      try rfl
    · exact fun _ => rfl
    simp only [List.nil_append, List.cons_append, Nat.reduceAdd]
    refine wpInv_det (by kernel_rfl) (by kernel_rfl) ?_
    apply Exists.intro
    refine ⟨?_, ?_, ?_⟩
    · intro U W hC hH
      have hc1 := (bcell hC).1
      have hf1 := (bcell hC).2
      simp only [HypsU, predsOf, Region.binds, List.filterMap_cons, List.filterMap_nil, if_true, List.nil_append, List.cons_append, List.getD_cons_zero, List.getD_cons_succ] at hH
      simp only [fillPuts, Act.put, List.setIfInBounds_toArray, List.set_cons_zero, List.set_cons_succ, Nat.reduceAdd]
      go_wp2_with fail
      refine ⟨rfl, rfl, by (repeat' (first | (with_reducible exact Below.refl _ _) | (with_reducible assumption) | (with_reducible refine Below.alloc ?_ ?_ _) | (with_reducible refine below_grew ?_ ?_ _) | (with_reducible refine Below.setCell ?_ ?_ _) | (with_reducible refine Below.drew ?_) | (with_reducible refine below_drewN ?_ _) | omega | (simp; done) | (simp; omega))), ?_⟩
      conv => lhs; whnf
      try rfl
    · exact fun _ => rfl
    simp only [List.nil_append, List.cons_append, Nat.reduceAdd]
    refine wpInv_det (by kernel_rfl) (by kernel_rfl) ?_
    apply Exists.intro
    refine ⟨?_, ?_, ?_⟩
    · intro U W hC hH
      have hc1 := (bcell hC).1
      have hf1 := (bcell hC).2
      simp only [HypsU, predsOf, Region.binds, List.filterMap_cons, List.filterMap_nil, if_true, List.nil_append, List.cons_append, List.getD_cons_zero, List.getD_cons_succ] at hH
      simp only [fillPuts, Act.put, List.setIfInBounds_toArray, List.set_cons_zero, List.set_cons_succ, Nat.reduceAdd]
      go_wp2_with fail
      refine ⟨rfl, rfl, by (repeat' (first | (with_reducible exact Below.refl _ _) | (with_reducible assumption) | (with_reducible refine Below.alloc ?_ ?_ _) | (with_reducible refine below_grew ?_ ?_ _) | (with_reducible refine Below.setCell ?_ ?_ _) | (with_reducible refine Below.drew ?_) | (with_reducible refine below_drewN ?_ _) | omega | (simp; done) | (simp; omega))), ?_⟩
      conv => lhs; whnf
      try rfl
    · exact fun _ => rfl
    simp only [List.nil_append, List.cons_append, Nat.reduceAdd]
    refine wpInv_det (by kernel_rfl) (by kernel_rfl) ?_
    apply Exists.intro
    refine ⟨?_, ?_, ?_⟩
    · intro U W hC hH
      have hc1 := (bcell hC).1
      have hf1 := (bcell hC).2
      simp only [HypsU, predsOf, Region.binds, List.filterMap_cons, List.filterMap_nil, if_true, List.nil_append, List.cons_append, List.getD_cons_zero, List.getD_cons_succ] at hH
      simp only [fillPuts, Act.put, List.setIfInBounds_toArray, List.set_cons_zero, List.set_cons_succ, Nat.reduceAdd]
      go_wp2_with fail
      refine ⟨rfl, rfl, by (repeat' (first | (with_reducible exact Below.refl _ _) | (with_reducible assumption) | (with_reducible refine Below.alloc ?_ ?_ _) | (with_reducible refine below_grew ?_ ?_ _) | (with_reducible refine Below.setCell ?_ ?_ _) | (with_reducible refine Below.drew ?_) | (with_reducible refine below_drewN ?_ _) | omega | (simp; done) | (simp; omega))), ?_⟩
      conv => lhs; whnf
      try rfl
    · exact fun _ => rfl
    simp only [List.nil_append, List.cons_append, Nat.reduceAdd]
    refine wpInv_det (by kernel_rfl) (by kernel_rfl) ?_
    apply Exists.intro
    refine ⟨?_, ?_, ?_⟩
    · intro U W hC hH
      have hc1 := (bcell hC).1
      have hf1 := (bcell hC).2
      simp only [HypsU, predsOf, Region.binds, List.filterMap_cons, List.filterMap_nil, if_true, List.nil_append, List.cons_append, List.getD_cons_zero, List.getD_cons_succ] at hH
      simp only [fillPuts, Act.put, List.setIfInBounds_toArray, List.set_cons_zero, List.set_cons_succ, Nat.reduceAdd]
      go_wp2_with fail
      refine ⟨rfl, rfl, by (repeat' (first | (with_reducible exact Below.refl _ _) | (with_reducible assumption) | (with_reducible refine Below.alloc ?_ ?_ _) | (with_reducible refine below_grew ?_ ?_ _) | (with_reducible refine Below.setCell ?_ ?_ _) | (with_reducible refine Below.drew ?_) | (with_reducible refine below_drewN ?_ _) | omega | (simp; done) | (simp; omega))), ?_⟩
      conv => lhs; whnf
      try rfl
    · exact fun _ => rfl
    simp only [List.nil_append, List.cons_append, Nat.reduceAdd]
    refine wpInv_det (by kernel_rfl) (by kernel_rfl) ?_
    apply Exists.intro
    refine ⟨?_, ?_, ?_⟩
    · intro U W hC hH
      have hc1 := (bcell hC).1
      have hf1 := (bcell hC).2
      simp only [HypsU, predsOf, Region.binds, List.filterMap_cons, List.filterMap_nil, if_true, List.nil_append, List.cons_append, List.getD_cons_zero, List.getD_cons_succ] at hH
      simp only [fillPuts, Act.put, List.setIfInBounds_toArray, List.set_cons_zero, List.set_cons_succ, Nat.reduceAdd]
      go_wp2_with fail
      refine ⟨rfl, rfl, by (repeat' (first | (with_reducible exact Below.refl _ _) | (with_reducible assumption) | (with_reducible refine Below.alloc ?_ ?_ _) | (with_reducible refine below_grew ?_ ?_ _) | (with_reducible refine Below.setCell ?_ ?_ _) | (with_reducible refine Below.drew ?_) | (with_reducible refine below_drewN ?_ _) | omega | (simp; done) | (simp; omega))), ?_⟩
      conv => lhs; whnf
      try rfl
    · exact fun _ => rfl
    simp only [List.nil_append, List.cons_append, Nat.reduceAdd]
    refine wpInv_det (by kernel_rfl) (by kernel_rfl) ?_
    apply Exists.intro
    refine ⟨?_, ?_, ?_⟩
    · intro U W hC hH
      have hc1 := (bcell hC).1
      have hf1 := (bcell hC).2
      simp only [HypsU, predsOf, Region.binds, List.filterMap_cons, List.filterMap_nil, if_true, List.nil_append, List.cons_append, List.getD_cons_zero, List.getD_cons_succ] at hH
      simp only [fillPuts, Act.put, List.setIfInBounds_toArray, List.set_cons_zero, List.set_cons_succ, Nat.reduceAdd]
      go_wp2_with fail
      refine ⟨rfl, rfl, by (repeat' (first | (with_reducible exact Below.refl _ _) | (with_reducible assumption) | (with_reducible refine Below.alloc ?_ ?_ _) | (with_reducible refine below_grew ?_ ?_ _) | (with_reducible refine Below.setCell ?_ ?_ _) | (with_reducible refine Below.drew ?_) | (with_reducible refine below_drewN ?_ _) | omega | (simp; done) | (simp; omega))), ?_⟩
      conv => lhs; whnf
      try rfl
    · exact fun _ => rfl
    simp only [List.nil_append, List.cons_append, Nat.reduceAdd]
    refine wpInv_det (by kernel_rfl) (by kernel_rfl) ?_
    apply Exists.intro
    refine ⟨?_, ?_, ?_⟩
    · intro U W hC hH
      have hc1 := (bcell hC).1
      have hf1 := (bcell hC).2
      simp only [HypsU, predsOf, Region.binds, List.filterMap_cons, List.filterMap_nil, if_true, List.nil_append, List.cons_append, List.getD_cons_zero, List.getD_cons_succ] at hH
      simp only [fillPuts, Act.put, List.setIfInBounds_toArray, List.set_cons_zero, List.set_cons_succ, Nat.reduceAdd]
      go_wp2_with fail
      refine ⟨rfl, rfl, by (repeat' (first | (with_reducible exact Below.refl _ _) | (with_reducible assumption) | (with_reducible refine Below.alloc ?_ ?_ _) | (with_reducible refine below_grew ?_ ?_ _) | (with_reducible refine Below.setCell ?_ ?_ _) | (with_reducible refine Below.drew ?_) | (with_reducible refine below_drewN ?_ _) | omega | (simp; done) | (simp; omega))), ?_⟩
      conv => lhs; whnf
      try rfl
    · exact fun _ => rfl
    simp only [List.nil_append, List.cons_append, Nat.reduceAdd]
    refine wpInv_det (by kernel_rfl) (by kernel_rfl) ?_
    apply Exists.intro
    refine ⟨?_, ?_, ?_⟩
    · intro U W hC hH
      have hc1 := (bcell hC).1
      have hf1 := (bcell hC).2
      simp only [HypsU, predsOf, Region.binds, List.filterMap_cons, List.filterMap_nil, if_true, List.nil_append, List.cons_append, List.getD_cons_zero, List.getD_cons_succ] at hH
      simp only [fillPuts, Act.put, List.setIfInBounds_toArray, List.set_cons_zero, List.set_cons_succ, Nat.reduceAdd]
      (try simp only [hH]); go_wp2_with fail
      refine ⟨rfl, rfl, by (repeat' (first | (with_reducible exact Below.refl _ _) | (with_reducible assumption) | (with_reducible refine Below.alloc ?_ ?_ _) | (with_reducible refine below_grew ?_ ?_ _) | (with_reducible refine Below.setCell ?_ ?_ _) | (with_reducible refine Below.drew ?_) | (with_reducible refine below_drewN ?_ _) | omega | (simp; done) | (simp; omega))), ?_⟩
      conv => lhs; whnf
      try rfl
    · exact fun _ => rfl
    simp only [List.nil_append, List.cons_append, Nat.reduceAdd]
    refine wpInv_det (by kernel_rfl) (by kernel_rfl) ?_
    apply Exists.intro
    refine ⟨?_, ?_, ?_⟩
    · intro U W hC hH
      have hc1 := (bcell hC).1
      have hf1 := (bcell hC).2
      simp only [HypsU, predsOf, Region.binds, List.filterMap_cons, List.filterMap_nil, if_true, List.nil_append, List.cons_append, List.getD_cons_zero, List.getD_cons_succ] at hH
      simp only [fillPuts, Act.put, List.setIfInBounds_toArray, List.set_cons_zero, List.set_cons_succ, Nat.reduceAdd]
      (try simp only [hH]); go_wp2_with fail
      refine ⟨rfl, rfl, by (repeat' (first | (with_reducible exact Below.refl _ _) | (with_reducible assumption) | (with_reducible refine Below.alloc ?_ ?_ _) | (with_reducible refine below_grew ?_ ?_ _) | (with_reducible refine Below.setCell ?_ ?_ _) | (with_reducible refine Below.drew ?_) | (with_reducible refine below_drewN ?_ _) | omega | (simp; done) | (simp; omega))), ?_⟩
      conv => lhs; whnf
      try rfl
    · exact fun _ => rfl
    simp only [List.nil_append, List.cons_append, Nat.reduceAdd]
    refine wpInv_det (by kernel_rfl) (by kernel_rfl) ?_
    apply Exists.intro
    refine ⟨?_, ?_, ?_⟩
    · intro U W hC hH
      have hc1 := (bcell hC).1
      have hf1 := (bcell hC).2
      simp only [HypsU, predsOf, Region.binds, List.filterMap_cons, List.filterMap_nil, if_true, List.nil_append, List.cons_append, List.getD_cons_zero, List.getD_cons_succ] at hH
      simp only [fillPuts, Act.put, List.setIfInBounds_toArray, List.set_cons_zero, List.set_cons_succ, Nat.reduceAdd]
      (try simp only [hH]); go_wp2_with fail
      refine ⟨rfl, rfl, by (repeat' (first | (with_reducible exact Below.refl _ _) | (with_reducible assumption) | (with_reducible refine Below.alloc ?_ ?_ _) | (with_reducible refine below_grew ?_ ?_ _) | (with_reducible refine Below.setCell ?_ ?_ _) | (with_reducible refine Below.drew ?_) | (with_reducible refine below_drewN ?_ _) | omega | (simp; done) | (simp; omega))), ?_⟩
      conv => lhs; whnf
      try rfl
    · exact fun _ => rfl
    simp only [List.nil_append, List.cons_append, Nat.reduceAdd]
    refine wpInv_det (by kernel_rfl) (by kernel_rfl) ?_
    apply Exists.intro
    refine ⟨?_, ?_, ?_⟩
    · intro U W hC hH
      have hc1 := (bcell hC).1
      have hf1 := (bcell hC).2
      simp only [HypsU, predsOf, Region.binds, List.filterMap_cons, List.filterMap_nil, if_true, List.nil_append, List.cons_append, List.getD_cons_zero, List.getD_cons_succ] at hH
      simp only [fillPuts, Act.put, List.setIfInBounds_toArray, List.set_cons_zero, List.set_cons_succ, Nat.reduceAdd]
      (try simp only [hH]); go_wp2_with fail
      refine ⟨rfl, rfl, by (repeat' (first | (with_reducible exact Below.refl _ _) | (with_reducible assumption) | (with_reducible refine Below.alloc ?_ ?_ _) | (with_reducible refine below_grew ?_ ?_ _) | (with_reducible refine Below.setCell ?_ ?_ _) | (with_reducible refine Below.drew ?_) | (with_reducible refine below_drewN ?_ _) | omega | (simp; done) | (simp; omega))), ?_⟩
      conv => lhs; whnf
      try rfl
    · exact fun _ => rfl
    simp only [List.nil_append, List.cons_append, Nat.reduceAdd]
    refine wpInv_det (by kernel_rfl) (by kernel_rfl) ?_
    apply Exists.intro
    refine ⟨?_, ?_, ?_⟩
    · intro U W hC hH
      have hc1 := (bcell hC).1
      have hf1 := (bcell hC).2
      simp only [HypsU, predsOf, Region.binds, List.filterMap_cons, List.filterMap_nil, if_true, List.nil_append, List.cons_append, List.getD_cons_zero, List.getD_cons_succ] at hH
      simp only [fillPuts, Act.put, List.setIfInBounds_toArray, List.set_cons_zero, List.set_cons_succ, Nat.reduceAdd]
      go_wp2_with fail
      refine ⟨rfl, rfl, by (repeat' (first | (with_reducible exact Below.refl _ _) | (with_reducible assumption) | (with_reducible refine Below.alloc ?_ ?_ _) | (with_reducible refine below_grew ?_ ?_ _) | (with_reducible refine Below.setCell ?_ ?_ _) | (with_reducible refine Below.drew ?_) | (with_reducible refine below_drewN ?_ _) | omega | (simp; done) | (simp; omega))), ?_⟩
      conv => lhs; whnf
      try rfl
    · exact fun _ => rfl
    simp only [List.nil_append, List.cons_append, Nat.reduceAdd]
    refine wpInv_det (by kernel_rfl) (by kernel_rfl) ?_
    apply Exists.intro
    refine ⟨?_, ?_, ?_⟩
    · intro U W hC hH
      have hc1 := (bcell hC).1
      have hf1 := (bcell hC).2
      simp only [HypsU, predsOf, Region.binds, List.filterMap_cons, List.filterMap_nil, if_true, List.nil_append, List.cons_append, List.getD_cons_zero, List.getD_cons_succ] at hH
      simp only [fillPuts, Act.put, List.setIfInBounds_toArray, List.set_cons_zero, List.set_cons_succ, Nat.reduceAdd]
      (try simp only [hH]); go_wp2_with fail
      refine ⟨rfl, rfl, by (repeat' (first | (with_reducible exact Below.refl _ _) | (with_reducible assumption) | (with_reducible refine Below.alloc ?_ ?_ _) | (with_reducible refine below_grew ?_ ?_ _) | (with_reducible refine Below.setCell ?_ ?_ _) | (with_reducible refine Below.drew ?_) | (with_reducible refine below_drewN ?_ _) | omega | (simp; done) | (simp; omega))), ?_⟩
      conv => lhs; whnf
      try rfl
    · exact fun _ => rfl
    simp only [List.nil_append, List.cons_append, Nat.reduceAdd]
    refine wpInv_det (by kernel_rfl) (by kernel_rfl) ?_
    apply Exists.intro
    refine ⟨?_, ?_, ?_⟩
    · intro U W hC hH
      have hc1 := (bcell hC).1
      have hf1 := (bcell hC).2
      simp only [HypsU, predsOf, Region.binds, List.filterMap_cons, List.filterMap_nil, if_true, List.nil_append, List.cons_append, List.getD_cons_zero, List.getD_cons_succ] at hH
      simp only [fillPuts, Act.put, List.setIfInBounds_toArray, List.set_cons_zero, List.set_cons_succ, Nat.reduceAdd]
      (try simp only [hH]); go_wp2_with fail
      refine ⟨rfl, rfl, by (repeat' (first | (with_reducible exact Below.refl _ _) | (with_reducible assumption) | (with_reducible refine Below.alloc ?_ ?_ _) | (with_reducible refine below_grew ?_ ?_ _) | (with_reducible refine Below.setCell ?_ ?_ _) | (with_reducible refine Below.drew ?_) | (with_reducible refine below_drewN ?_ _) | omega | (simp; done) | (simp; omega))), ?_⟩
      conv => lhs; whnf
      try rfl
    · exact fun _ => rfl
    simp only [List.nil_append, List.cons_append, Nat.reduceAdd]
    simp only [List.nil_append, List.cons_append, Nat.reduceAdd, fillPuts, Act.put, List.setIfInBounds_toArray, List.set_cons_zero, List.set_cons_succ]
    rintro U W hC ⟨h0, h1, h2, h3, h4, h5, h6, h7, h8, h9, h10, h11, h12, h13, h14, h15, -⟩ -
    simp only [h0, h1, h2, h3, h4, h5, h6, h7, h8, h9, h10, h11, h12, h13, h14, h15]
    clear h0 h1 h2 h3 h4 h5 h6 h7 h8 h9 h10 h11 h12 h13 h14 h15
    go_wp2_with fail
    go_ret
    exact ⟨by rw [HG.out]; rfl, HB.out.trans (hC.mono HB.out.size)⟩
  · have HG := Lib.hid (show getF s t = 0 by unfold getF; rw [if_neg hb])
    have e := decide_eq_false hb
    rw [e] at hri
    clear e hb
    go_enter Tryd.func137, Tryd.ntmps137
    go_wp2_with fail
    refine (hri.out _).mono ?_
    rintro e w' ⟨rfl, hb1⟩; obtain ⟨x1, rfl⟩ := below_as_grew hb1; clear hb1
    go_wp2_with fail
    go_ret
    exact ⟨by rw [HG.out]; rfl, by (repeat' (first | (with_reducible exact Below.refl _ _) | (with_reducible assumption) | (with_reducible refine Below.alloc ?_ ?_ _) | (with_reducible refine below_grew ?_ ?_ _) | (with_reducible refine Below.setCell ?_ ?_ _) | (with_reducible refine Below.drew ?_) | (with_reducible refine below_drewN ?_ _) | omega | (simp; done) | (simp; omega)))⟩
/-- One more byte, where the range has grown small. -/
def normS (c : RC) (s : RS) : RS := if s.rng ≤ 65536 then { taken := s.taken + 1, raws := s.raws, rng := s.rng * 256, val := s.val * 256 + c.byte s.taken } else s
def cutS (s : RS) (f e t : Int) : RS :=
  let p := s.rng / t
  let r := if e = t then s.rng - f * p else (e - f) * p
  { taken := s.taken, raws := s.raws, rng := r, val := min (s.val - min (f * p) s.val) (r - 1) }
def takeF (c : RC) (s : RS) (f e t : Int) : RS := if (1 ≤ t ∧ t ≤ 4096) ∧ 0 ≤ f ∧ f < e ∧ e ≤ t then normS c (normS c (cutS s f e t)) else s
theorem cut_bd (s : RS) (hok : RsOk s) (f e t : Int) (ht : 1 ≤ t ∧ t ≤ 4096) (hf : 0 ≤ f) (hfe : f < e) (het : e ≤ t) : 16 ≤ (cutS s f e t).rng ∧ (cutS s f e t).rng ≤ 16777216 ∧ 0 ≤ (cutS s f e t).val ∧ (cutS s f e t).val < (cutS s f e t).rng ∧ 0 ≤ f * (s.rng / t) ∧ f * (s.rng / t) ≤ s.rng ∧ 0 ≤ (e - f) * (s.rng / t) ∧ (e - f) * (s.rng / t) ≤ s.rng := by
  obtain ⟨p1, p2, p3, p4, p5⟩ := part_bd s.rng t hok.r0 hok.r1 ht.1 ht.2
  obtain ⟨r0, r1, v0, v1⟩ := hok
  unfold cutS
  simp only
  generalize s.rng / t = p at *
  have hp0 : 0 ≤ p := by omega
  have a1 : 0 ≤ f * p := Int.mul_nonneg hf hp0
  have a2 : f * p ≤ (t - 1) * p := Int.mul_le_mul_of_nonneg_right (by omega) hp0
  have a3 : (t - 1) * p = p * t - p := by rw [Int.sub_mul, Int.mul_comm t p, Int.one_mul]
  have b1 : 1 * p ≤ (e - f) * p := Int.mul_le_mul_of_nonneg_right (by omega) hp0
  have b2 : (e - f) * p ≤ t * p := Int.mul_le_mul_of_nonneg_right (by omega) hp0
  rw [Int.mul_comm t p] at b2
  generalize f * p = fp at *
  generalize (e - f) * p = ep at *
  split <;> refine ⟨?_, ?_, ?_, ?_, ?_, ?_, ?_, ?_⟩ <;> omega
theorem norm_ok (c : RC) (s : RS) (hb : ∀ i, 0 ≤ c.byte i ∧ c.byte i ≤ 255) (h0 : 16 ≤ s.rng) (h1 : s.rng ≤ 16777216) (h2 : 0 ≤ s.val) (h3 : s.val < s.rng) : RsOk (normS c (normS c s)) := by
  have step : ∀ s : RS, 0 ≤ s.val → s.val < s.rng → s.rng ≤ 16777216 → 0 ≤ (normS c s).val ∧ (normS c s).val < (normS c s).rng ∧ (normS c s).rng ≤ 16777216 ∧ (s.rng ≤ 65536 → (normS c s).rng = s.rng * 256) ∧ (65536 < s.rng → normS c s = s) := fun s a b d => by
    have := hb s.taken
    unfold normS
    split
    · rename_i hq
      refine ⟨by simp only; omega, by simp only; omega, by simp only; omega, fun _ => rfl, fun h => by omega⟩
    · exact ⟨a, b, d, fun h => by omega, fun _ => rfl⟩
  obtain ⟨a1, a2, a3, a4, a5⟩ := step s h2 h3 h1
  obtain ⟨b1, b2, b3, b4, b5⟩ := step (normS c s) a1 a2 a3
  refine ⟨?_, b3, b1, b2⟩
  by_cases q : s.rng ≤ 65536
  · have e := a4 q
    by_cases q2 : (normS c s).rng ≤ 65536
    · rw [b4 q2]; omega
    · rw [b5 (by omega)]; omega
  · rw [a5 (by omega)] at b5 ⊢
    rw [b5 (by omega)]; omega
theorem takeF_ok (c : RC) (s : RS) (hb : ∀ i, 0 ≤ c.byte i ∧ c.byte i ≤ 255) (hok : RsOk s) (f e t : Int) : RsOk (takeF c s f e t) := by
  unfold takeF
  split
  · rename_i h
    obtain ⟨ht, hf, hfe, het⟩ := h
    obtain ⟨q1, q2, q3, q4, -⟩ := cut_bd s hok f e t ht hf hfe het
    exact norm_ok c _ hb q1 q2 q3 q4
  · exact hok
end Go.Proofs.YtbcdnbbpkikppaaDoor
end

section
namespace Go
open Go.RowKit
variable {P : Program}
theorem region_one {id : Nat} {Q : Exit → Act → World → Prop} {a : Act} {w : World} {l : List Oper} (L : List Nat) (K n : Nat) (PD : Bool → World → Prop) (hm : P.follows .mixedOrders = true) (hB : invB l.toArray n = true)
    (h0 : PD false w) (hd : ∀ W : World, PD false W → PD false W.drew) (hk : ∀ b W W', Below W.heap.size W W' → PD b W → PD b W')
    (h : RI.wpInv P l.toArray [] (fun D W => Chg L w W ∧ PD (D K) W) (fun k W W' => if k = K then Chg L W W' ∧ PD true W' else Below W.heap.size W W') (l.take n) a (fun U w => wpList P l.toArray Q (l.drop n) (fillPuts (l.take n) U 0 a) w) 0 [] (l.take n)) : (Code.region id l.toArray true).wp P Q a w := by
  refine RI.wp_region_inv [] (fun D W => Chg L w W ∧ PD (D K) W) (fun k W W' => if k = K then Chg L W W' ∧ PD true W' else Below W.heap.size W W') n hm hB rfl ⟨(Chg.refl _ _).drew, hd _ h0⟩ ?_ ?_ h
  · rintro k D W W' hDk ⟨hC, hP⟩ hT
    by_cases e : k = K
    · rw [if_pos e] at hT
      refine ⟨hC.trans hT.1, ?_⟩
      show PD (if K = k then true else D K) W'
      rw [if_pos e.symm]
      exact hT.2
    · rw [if_neg e] at hT
      refine ⟨hC.below hT, ?_⟩
      show PD (if K = k then true else D K) W'
      rw [if_neg (fun h => e h.symm)]
      exact hk _ _ _ hT hP
  · intro k W W' hT
    by_cases e : k = K
    · rw [if_pos e] at hT; exact hT.1.size
    · rw [if_neg e] at hT; exact hT.size
end Go
end

section
namespace Go
open Go.RowKit
theorem or_nat (n : Nat) (X Y : Nat) (hx : X < 2 ^ n) (hy : Y < 2 ^ n) : (BitVec.ofInt n (X : Int) ||| BitVec.ofInt n (Y : Int)).toNat = X ||| Y := by
  rw [BitVec.toNat_or, BitVec.ofInt_natCast, BitVec.ofInt_natCast, BitVec.toNat_ofNat, BitVec.toNat_ofNat, Nat.mod_eq_of_lt hx, Nat.mod_eq_of_lt hy]
theorem or_u32 (i : Nat) (a z : Int) (ha : 0 ≤ a) (hz : 0 ≤ z) (hzi : z < 2 ^ i) (hb : a * 2 ^ i + z < 4294967296) : bits .or .u32 (a * 2 ^ i) z = a * 2 ^ i + z := by
  obtain ⟨A, rfl⟩ := Int.eq_ofNat_of_zero_le ha
  obtain ⟨Z, rfl⟩ := Int.eq_ofNat_of_zero_le hz
  have hzn : Z < 2 ^ i := by
    have h1 : (Z : Int) < ((2 ^ i : Nat) : Int) := by rw [Int.natCast_pow]; exact hzi
    exact Int.ofNat_lt.1 h1
  have hbn : A * 2 ^ i + Z < 4294967296 := by
    have h1 : ((A * 2 ^ i + Z : Nat) : Int) < ((4294967296 : Nat) : Int) := by rw [Int.natCast_add, Int.natCast_mul, Int.natCast_pow]; exact hb
    exact Int.ofNat_lt.1 h1
  have e : (A : Int) * 2 ^ i = ((A * 2 ^ i : Nat) : Int) := by rw [Int.natCast_mul, Int.natCast_pow]; rfl
  unfold bits
  simp only
  rw [e]
  have h32 : IntKind.u32.bits = 32 := rfl
  rw [h32, or_nat 32 _ _ (by omega) (by omega), Nat.mul_comm A, ← Nat.two_pow_add_eq_or_of_lt hzn, Nat.mul_comm]
  have hw : IntKind.u32.wrap ((A * 2 ^ i + Z : Nat) : Int) = (((A * 2 ^ i + Z : Nat) : Int)) % 4294967296 := by simp [IntKind.wrap, IntKind.bits, IntKind.signed]
  rw [hw]
  omega
theorem or_i64 (i : Nat) (a z : Int) (ha : 0 ≤ a) (hz : 0 ≤ z) (hzi : z < 2 ^ i) (hb : a * 2 ^ i + z < 9223372036854775808) : bits .or .i64 (a * 2 ^ i) z = a * 2 ^ i + z := by
  obtain ⟨A, rfl⟩ := Int.eq_ofNat_of_zero_le ha
  obtain ⟨Z, rfl⟩ := Int.eq_ofNat_of_zero_le hz
  have hzn : Z < 2 ^ i := by
    have h1 : (Z : Int) < ((2 ^ i : Nat) : Int) := by rw [Int.natCast_pow]; exact hzi
    exact Int.ofNat_lt.1 h1
  have hbn : A * 2 ^ i + Z < 9223372036854775808 := by
    have h1 : ((A * 2 ^ i + Z : Nat) : Int) < ((9223372036854775808 : Nat) : Int) := by rw [Int.natCast_add, Int.natCast_mul, Int.natCast_pow]; exact hb
    exact Int.ofNat_lt.1 h1
  have e : (A : Int) * 2 ^ i = ((A * 2 ^ i : Nat) : Int) := by rw [Int.natCast_mul, Int.natCast_pow]; rfl
  unfold bits
  simp only
  rw [e]
  have h32 : IntKind.i64.bits = 64 := rfl
  rw [h32, or_nat 64 _ _ (by omega) (by omega), Nat.mul_comm A, ← Nat.two_pow_add_eq_or_of_lt hzn, Nat.mul_comm]
  generalize hX : ((A * 2 ^ i + Z : Nat) : Int) = X
  have hX1 : X < 9223372036854775808 := by omega
  have hX0 : 0 ≤ X := by omega
  have hw : IntKind.i64.wrap X = X := by
    unfold IntKind.wrap
    have e1 : (X % (2 ^ IntKind.i64.bits : Int)) = X := by
      show X % 18446744073709551616 = X
      omega
    simp only [e1]
    rw [if_neg]
    intro h
    simp only [Bool.and_eq_true, decide_eq_true_eq] at h
    have h2 : X ≥ (9223372036854775808 : Int) := h.2
    omega
  rw [hw]
  omega
theorem or_byte (a z : Int) (ha : 0 ≤ a) (hz : 0 ≤ z) (hzi : z ≤ 255) (hb : a * 256 ≤ 4294967040) : bits .or .u32 (a * 256) z = a * 256 + z := or_u32 8 a z ha hz (by omega) (by omega)
end Go
end

