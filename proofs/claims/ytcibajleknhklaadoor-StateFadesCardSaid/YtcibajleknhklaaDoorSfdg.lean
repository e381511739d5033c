/-
  FftAlike, walked.
  (One text out of these parts: Kit, Eq, Rgn, RgnI, Flat, Wf, Base, PlayP, Conc, LoseP, Wide, Cis, Wide2, CisW, CisD, Shr, FftP, Fft, FftJ, FftO, App, FftN, FftF, FftL.)
-/
import Derived.Test.YtcibajleknhklaaDoorSfdf
import Derived.Deep.Quiet
import Derived.StillTail
import Derived.BigQuiet
import Derived.Below
import Derived.WalkKit
import Derived.WalkLawsBesides
import Derived.Lib.Hide
import Derived.Carry
import Derived.IntWalk
import Derived.Maps.AppendAt
import Derived.OwnWalk
import Derived.KernelRfl
import Derived.Laws.StructEq
import Derived.OpenShut
import Derived.Deep.MidRow
import Derived.Laws.CopyOwn
import Derived.Laws.Tables
import Derived.Laws.ResultCell
import Derived.Laws.Rows
import Derived.Lib.SliceRun
import Derived.Test.YtcibajleknhklaaDoorWWords
import Derived.Test.YtcibajleknhklaaDoorWLast
import Derived.Test.YtcibajleknhklaaDoorWMore
import Derived.Test.YtcibajleknhklaaDoorProg
import Derived.Laws.Externs
import Derived.Outline
import Derived.Shelf.Spec.BitsCarry
import Derived.Test.YtcibajleknhklaaDoorShelf
import Derived.LoopTactic
section
namespace Go
open Go.RowKit
/-- Blocks more, and another count of draws. -/
structure Grown.By where
  objs : Array Obj
  drawn : Nat
instance : Inhabited Grown.By := ⟨⟨#[], 0⟩⟩
/-- 'w' with blocks more, and another count of draws. -/
def World.grew (w : World) (x : Grown.By) : World := { w with heap := w.heap ++ x.objs, drawn := x.drawn }
section
variable (w : World) (x y : Grown.By)
theorem World.grew_block (k : Nat) (h : k < w.heap.size) : (w.grew x).heap[k]? = w.heap[k]? := by
  show (w.heap ++ x.objs)[k]? = _
  rw [Array.getElem?_append_left h]
@[simp, go_sem] theorem World.size_grew : (w.grew x).heap.size = w.heap.size + x.objs.size := by
  show (w.heap ++ x.objs).size = _
  simp
@[go_sem] theorem World.grew_grew : (w.grew x).grew y = w.grew ⟨x.objs ++ y.objs, y.drawn⟩ := by
  unfold World.grew
  simp [Array.append_assoc]
@[go_sem] theorem World.drew_grew : (w.grew x).drew = w.grew ⟨x.objs, x.drawn + 1⟩ := rfl
@[go_sem] theorem World.grew_drew : w.drew.grew x = w.grew x := rfl
@[go_sem] theorem World.grew_drewN (n : Nat) : (w.drewN n).grew x = w.grew x := rfl
@[go_sem] theorem World.drewN_grew (n : Nat) : (w.grew x).drewN n = w.grew ⟨x.objs, x.drawn + n⟩ := rfl
@[go_sem] theorem World.cell?_grew (n i : Nat) (s : Option Nat) (hn : n < w.heap.size) : (w.grew x).cell? ⟨n, i, s⟩ = w.cell? ⟨n, i, s⟩ := by
  unfold World.cell?
  rw [World.grew_block w x n hn]
@[go_sem] theorem World.frozen?_grew (n i : Nat) (s : Option Nat) (hn : n < w.heap.size) : (w.grew x).frozen? ⟨n, i, s⟩ = w.frozen? ⟨n, i, s⟩ := by
  unfold World.frozen?
  rw [World.grew_block w x n hn]
@[go_sem] theorem World.shape?_grew (n : Nat) (hn : n < w.heap.size) : (w.grew x).shape? n = w.shape? n := by
  unfold World.shape?
  rw [World.grew_block w x n hn]
@[go_sem] theorem World.setCell_grew (n i : Nat) (s : Option Nat) (v : Value) (hn : n < w.heap.size) : (w.grew x).setCell ⟨n, i, s⟩ v = (w.setCell ⟨n, i, s⟩ v).grew x := by
  unfold World.setCell World.grew
  congr 1
  apply Array.ext_getElem?
  intro k
  simp only [Array.getElem?_modify, Array.getElem?_append, Array.size_modify]
  by_cases hk : k < w.heap.size
  · simp [hk]
  · simp [hk]
    intro h; omega
@[go_sem] theorem World.heap_grew (k : Nat) (hk : k < w.heap.size) : (w.grew x).heap[k]? = w.heap[k]? := World.grew_block w x k hk
@[simp] theorem World.os_grew : (w.grew x).os = w.os := rfl
@[simp] theorem World.tape_grew : (w.grew x).tape = w.tape := rfl
end
@[go_sem] theorem lt_add_of_lt1 (a b c0 : Nat) (h : a < b) : (a < b + c0) = True := eq_true (by omega)
@[go_sem] theorem le_add_of_lt1 (a b c0 : Nat) (h : a < b) : (a ≤ b + c0) = True := eq_true (by omega)
@[go_sem] theorem ne_add_of_lt1 (a b c0 : Nat) (h : a < b) : (a = b + c0) = False := eq_false (by omega)
@[go_sem] theorem lt_add_of_lt2 (a b c0 c1 : Nat) (h : a < b) : (a < b + c0 + c1) = True := eq_true (by omega)
@[go_sem] theorem le_add_of_lt2 (a b c0 c1 : Nat) (h : a < b) : (a ≤ b + c0 + c1) = True := eq_true (by omega)
@[go_sem] theorem ne_add_of_lt2 (a b c0 c1 : Nat) (h : a < b) : (a = b + c0 + c1) = False := eq_false (by omega)
@[go_sem] theorem lt_add_of_lt3 (a b c0 c1 c2 : Nat) (h : a < b) : (a < b + c0 + c1 + c2) = True := eq_true (by omega)
@[go_sem] theorem le_add_of_lt3 (a b c0 c1 c2 : Nat) (h : a < b) : (a ≤ b + c0 + c1 + c2) = True := eq_true (by omega)
@[go_sem] theorem ne_add_of_lt3 (a b c0 c1 c2 : Nat) (h : a < b) : (a = b + c0 + c1 + c2) = False := eq_false (by omega)
@[go_sem] theorem lt_add_of_lt4 (a b c0 c1 c2 c3 : Nat) (h : a < b) : (a < b + c0 + c1 + c2 + c3) = True := eq_true (by omega)
@[go_sem] theorem le_add_of_lt4 (a b c0 c1 c2 c3 : Nat) (h : a < b) : (a ≤ b + c0 + c1 + c2 + c3) = True := eq_true (by omega)
@[go_sem] theorem ne_add_of_lt4 (a b c0 c1 c2 c3 : Nat) (h : a < b) : (a = b + c0 + c1 + c2 + c3) = False := eq_false (by omega)
@[go_sem] theorem lt_add_of_lt5 (a b c0 c1 c2 c3 c4 : Nat) (h : a < b) : (a < b + c0 + c1 + c2 + c3 + c4) = True := eq_true (by omega)
@[go_sem] theorem le_add_of_lt5 (a b c0 c1 c2 c3 c4 : Nat) (h : a < b) : (a ≤ b + c0 + c1 + c2 + c3 + c4) = True := eq_true (by omega)
@[go_sem] theorem ne_add_of_lt5 (a b c0 c1 c2 c3 c4 : Nat) (h : a < b) : (a = b + c0 + c1 + c2 + c3 + c4) = False := eq_false (by omega)
@[go_sem] theorem le_self2 (a c0 c1 : Nat) : (a ≤ a + c0 + c1) = True := eq_true (by omega)
@[go_sem] theorem le_self3 (a c0 c1 c2 : Nat) : (a ≤ a + c0 + c1 + c2) = True := eq_true (by omega)
@[go_sem] theorem le_self4 (a c0 c1 c2 c3 : Nat) : (a ≤ a + c0 + c1 + c2 + c3) = True := eq_true (by omega)
@[go_sem] theorem le_self5 (a c0 c1 c2 c3 c4 : Nat) : (a ≤ a + c0 + c1 + c2 + c3 + c4) = True := eq_true (by omega)
@[go_sem] theorem le_self6 (a c0 c1 c2 c3 c4 c5 : Nat) : (a ≤ a + c0 + c1 + c2 + c3 + c4 + c5) = True := eq_true (by omega)
@[go_sem] theorem lt_self1 (a c0 : Nat) : (a < a + 1 + c0) = True := eq_true (by omega)
@[go_sem] theorem ne_self1 (a c0 : Nat) : (a = a + 1 + c0) = False := eq_false (by omega)
@[go_sem] theorem lt_self2 (a c0 c1 : Nat) : (a < a + 1 + c0 + c1) = True := eq_true (by omega)
@[go_sem] theorem ne_self2 (a c0 c1 : Nat) : (a = a + 1 + c0 + c1) = False := eq_false (by omega)
@[go_sem] theorem lt_self3 (a c0 c1 c2 : Nat) : (a < a + 1 + c0 + c1 + c2) = True := eq_true (by omega)
@[go_sem] theorem ne_self3 (a c0 c1 c2 : Nat) : (a = a + 1 + c0 + c1 + c2) = False := eq_false (by omega)
@[go_sem] theorem lt_self4 (a c0 c1 c2 c3 : Nat) : (a < a + 1 + c0 + c1 + c2 + c3) = True := eq_true (by omega)
@[go_sem] theorem ne_self4 (a c0 c1 c2 c3 : Nat) : (a = a + 1 + c0 + c1 + c2 + c3) = False := eq_false (by omega)
@[go_sem] theorem lt_self5 (a c0 c1 c2 c3 c4 : Nat) : (a < a + 1 + c0 + c1 + c2 + c3 + c4) = True := eq_true (by omega)
@[go_sem] theorem ne_self5 (a c0 c1 c2 c3 c4 : Nat) : (a = a + 1 + c0 + c1 + c2 + c3 + c4) = False := eq_false (by omega)
theorem World.grew_none (w : World) : w.grew ⟨#[], w.drawn⟩ = w := by unfold World.grew; simp
theorem World.as_grew (w : World) : ∃ x, w = w.grew x := ⟨_, (World.grew_none w).symm⟩
theorem below_grew {B : Nat} {a w : World} (h : Below B a w) (hB : B ≤ w.heap.size) (x : Grown.By) : Below B a (w.grew x) :=
  h.trans ⟨rfl, rfl, rfl, by simp, fun k hk => World.grew_block _ _ _ (by omega)⟩
/-- What lies below the size of 'w' is as it was: so w' is w, grown. -/
theorem below_as_grew {w w' : World} (h : Below w.heap.size w w') : ∃ x : Grown.By, w' = w.grew x := by
  refine ⟨⟨w'.heap.extract w.heap.size w'.heap.size, w'.drawn⟩, ?_⟩
  have hh : w'.heap = w.heap ++ w'.heap.extract w.heap.size w'.heap.size := by
    apply Array.ext_getElem?
    intro k
    rw [Array.getElem?_append]
    by_cases hk : k < w.heap.size
    · rw [if_pos hk, h.block k hk]
    · rw [if_neg hk, Array.getElem?_extract]
      by_cases h2 : k < w'.heap.size
      · rw [if_pos (by omega)]
        congr 1; omega
      · rw [if_neg (by omega)]
        simp; omega
  obtain ⟨hp, tp, dr, os, out⟩ := w'
  obtain ⟨a1, a2, a3, a4, a5⟩ := h
  simp only at *
  subst a1 a2 a3
  unfold World.grew
  simp only
  congr 1
section
variable {P : Program} {ops : Array Oper} {md : Region.Mode} {C : World → Prop}
def headQ (P : Program) (md : Region.Mode) (ops : Array Oper) (C : World → Prop) (n : Nat) (L : Array Bool → Act → Prop) : Nat → Array Bool → Act → Prop
  | 0, listed, a => L listed a
  | f + 1, listed, a =>
    Region.ready md ops listed ≠ [] ∧ ∀ i ∈ Region.ready md ops listed, i < n ∧ qOp P ops C i (headQ P md ops C n L f (listed.setIfInBounds i true)) a
theorem wpAny_of_headQ {n g : Nat} {L : Array Bool → Act → Prop} {Q' : Exit → Act → World → Prop} (hL : ∀ listed a w, C w → L listed a → wpAny P md ops Q' g listed a w) :
    ∀ (f : Nat) (listed : Array Bool) (a : Act) (w : World), C w → headQ P md ops C n L f listed a → wpAny P md ops Q' (f + g) listed a w
  | 0, listed, a, w, hw, h => by rw [Nat.zero_add]; exact hL _ _ _ hw h
  | f + 1, listed, a, w, hw, h => by
    rw [show f + 1 + g = (f + g) + 1 by omega]
    exact ⟨fun h0 => absurd h0 h.1, fun i hi => wpOp_of_qOp hw (fun a' w' hw' h' => wpAny_of_headQ hL f _ a' w' hw' h') (h.2 i hi).2⟩
theorem headQ_first {n i : Nat} {oi : Oper} {v : Value} {L : Array Bool → Act → Prop} (hi : ops[i]? = some oi) (hsel : ∀ (j : Nat) (o : Oper) cs b, ops[j]? = some o → o.op ≠ .select cs b)
    (hs : Region.sinkB md ops n = true) (hc : Region.chainB md ops n = true) (hn : n < ops.size) (hin : i < n)
    (hdone : ∀ listed a, L listed a → ∀ j ∈ Region.ready md ops listed, n ≤ j) :
    ∀ (f : Nat) (listed : Array Bool) (a : Act), HeadInv md ops n listed →
      (∀ j oj, ops[j]? = some oj → j ≠ i → listed.getD j true = false → (∀ e ∈ oj.after, Region.binds md e = true → e.on ≠ i) → oi.apart ops oj = true) →
      i ∈ Region.ready md ops listed → YieldsIn P ops C oi v a →
      headQ P md ops C n L f (listed.setIfInBounds i true) (a.put oi.dst v) → headQ P md ops C n L (f + 1) listed a := by
  intro f
  induction f with
  | zero =>
    intro listed a inv _ hr hy H
    have hun := (mem_ready.1 hr).1
    refine ⟨fun h => (by rw [h] at hr; cases hr), fun j hj => ?_⟩
    have hjn : j < n := by
      rcases Nat.lt_or_ge j n with h | h
      · exact h
      · exact absurd hj (tail_waits hs hc hn inv _ i rfl hin hun j h)
    refine ⟨hjn, ?_⟩
    by_cases hji : j = i
    · subst hji; exact hy.qOp hi H
    · have := hdone _ _ H j (ready_mono hj hji)
      omega
  | succ f ih =>
    intro listed a inv hfree hr hy H
    have hun := (mem_ready.1 hr).1
    refine ⟨fun h => (by rw [h] at hr; cases hr), fun j hj => ?_⟩
    have hjn : j < n := by
      rcases Nat.lt_or_ge j n with h | h
      · exact h
      · exact absurd hj (tail_waits hs hc hn inv _ i rfl hin hun j h)
    refine ⟨hjn, ?_⟩
    by_cases hji : j = i
    · subst hji; exact hy.qOp hi H
    · have h1 := (H.2 j (ready_mono hj hji)).2
      obtain ⟨hjun, oj, hoj, hall⟩ := mem_ready.1 hj
      have hnot : ∀ e ∈ oj.after, Region.binds md e = true → e.on ≠ i := fun e he hb heq => by
        have h1 := hall e he hb
        rw [heq, getD_both hun] at h1
        cases h1
      have h2 := qOp_put hoj (hfree j oj hoj hji hjun hnot) (fun cs b => hsel i oi cs b hi) (fun cs b => hsel j oj cs b hoj) hy h1
      have hfree' : ∀ k ok, ops[k]? = some ok → k ≠ i → (listed.setIfInBounds j true).getD k true = false →
          (∀ e ∈ ok.after, Region.binds md e = true → e.on ≠ i) → oi.apart ops ok = true := fun k ok hk hki hun hno => by
        refine hfree k ok hk hki ?_ hno
        by_cases hjk : j = k
        · subst hjk; exact hjun
        · rw [getD_set_ne true hjk] at hun; exact hun
      refine qOp_mono (fun a' h3 => ih (listed.setIfInBounds j true) a' (inv.set hj hjn) hfree' (ready_mono hr (Ne.symm hji)) h3.1 ?_) h2
      rw [Array.setIfInBounds_comm _ _ hji]
      exact h3.2
theorem headQ_lex {n g : Nat} {Lq : Act → Prop} (hsel : Region.noSelect ops = true) (hs : Region.sinkB md ops n = true) (hc : Region.chainB md ops n = true) (hn : n < ops.size) :
    ∀ (l : List Oper) (k : Nat) (listed : Array Bool) (a : Act), (∀ j, j < l.length → l[j]? = ops[k + j]?) → k + l.length = n → HeadInv md ops n listed →
    Region.lexHead md ops g l.length k listed = true → wpQuiet P ops C Lq l a →
    headQ P md ops C n (fun listed' a' => Region.seqB md ops g n listed' = true ∧ Lq a') l.length listed a
  | [], k, listed, a, _, hk, _, hB, h => by
    have : k = n := by simpa using hk
    subst this
    exact ⟨by simpa [Region.lexHead] using hB, h⟩
  | o :: l, k, listed, a, hl, hk, inv, hB, h => by
    have h0 : ops[k]? = some o := by simpa using (hl 0 (by simp)).symm
    simp only [List.length_cons, Region.lexHead, Bool.and_eq_true] at hB
    obtain ⟨⟨hr, hf⟩, hB'⟩ := hB
    have hkn : k < n := by simp only [List.length_cons] at hk; omega
    have hr' : k ∈ Region.ready md ops listed := by simpa using hr
    have hst : qOp P ops C k (wpQuiet P ops C Lq l) a := by unfold qOp; simp only [h0]; exact h
    obtain ⟨v, hy, hK⟩ := yieldsIn_of_qOp h0 hst
    exact headQ_first h0 (Region.noSelect_spec hsel) hs hc hn hkn (fun listed' a' hL => seqB_ready hL.1) l.length listed a inv (Region.free_spec h0 hf) hr' hy
      (headQ_lex hsel hs hc hn l (k + 1) _ _ (fun j hj => by have := hl (j + 1) (by simp; omega); simpa [Nat.add_assoc, Nat.add_comm 1 j] using this) (by simp only [List.length_cons] at hk; omega) (inv.set hr' hkn) hB' hK)
theorem wp_region_headQ {id : Nat} {Q : Exit → Act → World → Prop} {a : Act} {w : World} {l : List Oper} (n : Nat) (hm : P.follows .mixedOrders = true) (hB : Region.lexTailB .any l.toArray n = true)
    (hC : C { w with drawn := w.drawn + 1 })
    (h : wpQuiet P l.toArray C (fun a' => ∀ w', C w' → wpList P l.toArray Q (l.drop n) a' w') (l.take n) a) : (Code.region id l.toArray true).wp P Q a w := by
  simp only [Region.lexTailB, Bool.and_eq_true, decide_eq_true_eq] at hB
  obtain ⟨⟨⟨⟨hsel, hn⟩, hs⟩, hc⟩, hlex⟩ := hB
  have hn' : n < l.length := by simpa using hn
  have htl : (l.take n).length = n := by simp; omega
  have hdl : (l.drop n).length = l.toArray.size - n := by simp
  have inv0 : HeadInv .any l.toArray n (Array.replicate l.toArray.size false) :=
    ⟨by simp, fun j oj _ hl => (by rw [getD_replicate_false] at hl; cases hl), fun t _ ht => getD_in (by simpa using ht) (getD_replicate_false _ _)⟩
  have hhead := headQ_lex (P := P) (C := C) (md := .any) (ops := l.toArray) (n := n) (g := l.toArray.size - n) hsel hs hc hn (l.take n) 0 (Array.replicate l.toArray.size false) a
    (fun j hj => by rw [htl] at hj; simp [hj]) (by simpa using htl) inv0 (by rw [htl]; exact hlex) h
  rw [htl] at hhead
  refine wp_region_any hm ?_
  have := wpAny_of_headQ (P := P) (C := C) (md := .any) (ops := l.toArray) (Q' := Q) (g := l.toArray.size - n)
    (fun listed a' w' hw' hL => by
      have hq := wpAny_of_seq (P := P) (md := .any) (ops := l.toArray) (Q' := Q) (l.drop n) n listed a' w' (fun j => by simp [List.getElem?_drop]) (by rw [hdl]; exact hL.1) (hL.2 w' hw')
      rwa [hdl] at hq) n _ a _ hC hhead
  have e : n + (l.toArray.size - n) = l.toArray.size := by omega
  rwa [e] at this
/-- The class: the world at hand, grown. -/
theorem wp_region_grew {id : Nat} {Q : Exit → Act → World → Prop} {a : Act} {w : World} {l : List Oper} (n : Nat) (hm : P.follows .mixedOrders = true) (hB : Region.lexTailB .any l.toArray n = true)
    (h : wpQuiet P l.toArray (fun w' => ∃ x, w' = w.grew x) (fun a' => ∀ w', (∃ x, w' = w.grew x) → wpList P l.toArray Q (l.drop n) a' w') (l.take n) a) : (Code.region id l.toArray true).wp P Q a w :=
  wp_region_headQ n hm hB ⟨⟨#[], w.drawn + 1⟩, by unfold World.grew; simp⟩ h
/-- A region all of whose operations are quiet. -/
theorem wp_region_grew_all {id : Nat} {Q : Exit → Act → World → Prop} {a : Act} {w : World} {l : List Oper} (hm : P.follows .mixedOrders = true) (hB : Region.lexB .any l.toArray = true)
    (h : wpQuiet P l.toArray (fun w' => ∃ x, w' = w.grew x) (fun a' => ∀ w', (∃ x, w' = w.grew x) → Q .normal a' w') l a) : (Code.region id l.toArray true).wp P Q a w :=
  wp_region_quiet (C := fun w' => ∃ x, w' = w.grew x) hm hB ⟨⟨#[], w.drawn + 1⟩, by unfold World.grew; simp⟩ (by simpa using h)
theorem wp_region_grew2 {id : Nat} {Q : Exit → Act → World → Prop} {a : Act} {w : World} {x0 : Grown.By} {l : List Oper} (n : Nat) (hm : P.follows .mixedOrders = true) (hB : Region.lexTailB .any l.toArray n = true)
    (h : wpQuiet P l.toArray (fun w' => ∃ x, w' = w.grew x) (fun a' => ∀ w', (∃ x, w' = w.grew x) → wpList P l.toArray Q (l.drop n) a' w') (l.take n) a) : (Code.region id l.toArray true).wp P Q a (w.grew x0) :=
  wp_region_headQ n hm hB ⟨⟨x0.objs, x0.drawn + 1⟩, rfl⟩ h
theorem wp_region_grew_all2 {id : Nat} {Q : Exit → Act → World → Prop} {a : Act} {w : World} {x0 : Grown.By} {l : List Oper} (hm : P.follows .mixedOrders = true) (hB : Region.lexB .any l.toArray = true)
    (h : wpQuiet P l.toArray (fun w' => ∃ x, w' = w.grew x) (fun a' => ∀ w', (∃ x, w' = w.grew x) → Q .normal a' w') l a) : (Code.region id l.toArray true).wp P Q a (w.grew x0) :=
  wp_region_quiet (C := fun w' => ∃ x, w' = w.grew x) hm hB ⟨⟨x0.objs, x0.drawn + 1⟩, rfl⟩ (by simpa using h)
/-- A contract that makes memory, met in a grown world. -/
theorem Calls.grew_of {f : FuncId} {args : Array Value} {w : World} {x : Grown.By} {v : Value}
    (h : Calls P f args (w.grew x) fun e w' => e = .returned v ∧ Below (w.grew x).heap.size (w.grew x) w') : Calls P f args (w.grew x) fun e w'' => e = .returned v ∧ ∃ y, w'' = w.grew y :=
  h.mono fun _ _ ⟨he, hb⟩ => ⟨he, by
    obtain ⟨y, hy⟩ := below_as_grew hb
    exact ⟨_, hy.trans (World.grew_grew w x y)⟩⟩
end
theorem ret_int {k : IntKind} {a b : Int} (h : a = b) : Ending.returned (.int k a) = .returned (.int k b) := by rw [h]
theorem ret_bool {a b : Bool} (h : a = b) : Ending.returned (.bool a) = .returned (.bool b) := by rw [h]
def TabW (g n : Nat) (k : IntKind) (zs : List Int) (w : World) : Prop := g < w.heap.size ∧ ∀ j : Nat, j < n → w.cell? ⟨g, j, none⟩ = some (.int k (zs.getD j 0))
theorem TabW.below {g n : Nat} {k : IntKind} {zs : List Int} {w w' : World} (h : TabW g n k zs w) (hb : Below w.heap.size w w') : TabW g n k zs w' :=
  ⟨Nat.lt_of_lt_of_le h.1 hb.size, fun j hj => (hb.cell (p := ⟨g, j, none⟩) h.1).trans (h.2 j hj)⟩
theorem i64_mask (i : Nat) (hi : i ≤ 62) (x : Int) : bits .and .i64 x (2 ^ i - 1) = x % 2 ^ i := by
  have hpos : 0 < 2 ^ i := Nat.two_pow_pos i
  have hle : 2 ^ i ≤ 2 ^ 62 := Nat.pow_le_pow_right (by decide) hi
  have hc : ((2 : Int) ^ i - 1) = ((2 ^ i - 1 : Nat) : Int) := by
    rw [Int.natCast_sub hpos]; simp
  have hm : (2 ^ i - 1) % 2 ^ 64 = 2 ^ i - 1 := Nat.mod_eq_of_lt (by omega)
  have hd : (2 : Int) ^ i ∣ 2 ^ 64 := by
    obtain ⟨d, hd⟩ : ∃ d, 64 = i + d := ⟨64 - i, by omega⟩
    exact ⟨2 ^ d, by rw [hd, Int.pow_add]⟩
  rw [hc]
  have hb : IntKind.bits .i64 = 64 := rfl
  simp only [bits, hb, BitVec.ofInt_natCast, BitVec.toNat_and, BitVec.toNat_ofNat, BitVec.toNat_ofInt, hm, Nat.and_two_pow_sub_one_eq_mod]
  have h2 : (((x % ((2 ^ 64 : Nat) : Int)).toNat % 2 ^ i : Nat) : Int) = x % 2 ^ i := by
    rw [Int.natCast_emod, Int.toNat_of_nonneg (Int.emod_nonneg _ (by decide))]
    have e1 : ((2 ^ 64 : Nat) : Int) = 2 ^ 64 := by decide
    have e2 : ((2 ^ i : Nat) : Int) = 2 ^ i := by simp
    rw [e1, e2]
    exact Int.emod_emod_of_dvd x hd
  rw [h2]
  have hp : (0 : Int) < 2 ^ i := by exact_mod_cast hpos
  have b0 : 0 ≤ x % 2 ^ i := Int.emod_nonneg _ (Int.ne_of_gt hp)
  have b1 : x % 2 ^ i < 2 ^ i := Int.emod_lt_of_pos _ hp
  have b2 : (2 : Int) ^ i ≤ 2 ^ 62 := by exact_mod_cast hle
  rw [IntKind.wrap_i64]
  have : (2 : Int) ^ 62 = 4611686018427387904 := by decide
  omega
theorem i64_and1 (x : Int) : bits .and .i64 x 1 = x % 2 := i64_mask 1 (by decide) x
theorem i64_and255 (x : Int) : bits .and .i64 x 255 = x % 256 := i64_mask 8 (by decide) x
/-- Behind an append to a row of one's own from 'base' on, all below 'base' is as it was. -/
theorem below_of_grown {base : Nat} {e : TypeId} {size n : Nat} {v : Value} {xs : List Value} {w w' : World} (hown : w.ownsRow base e size v n xs) (hg : w.grownBy w' v.ownBlock) (hbase : base ≤ w.heap.size) : Below base w w' :=
  ⟨hg.os, hg.tape, hg.output, hg.size, fun k hk => hg.block k (by omega) (fun h => by
    have := (hown.lt k h.symm).1
    omega)⟩
theorem ownsRow_below {base : Nat} {e : TypeId} {size n : Nat} {v : Value} {xs : List Value} {w w' : World} (hown : w.ownsRow base e size v n xs) (hb : Below w.heap.size w w') : w'.ownsRow base e size v n xs := by
  obtain ⟨h1, h2⟩ := hown
  refine ⟨h1, ?_⟩
  rcases h2 with h2 | ⟨g, cap, cur, hv, hg, hh, r⟩
  · exact .inl h2
  · exact .inr ⟨g, cap, cur, hv, hg, (hb.block g (Array.getElem?_eq_some_iff.1 hh).1).trans hh, r⟩
/-- 'v = append(v, x)': one element, which lies in the block that was made last. -/
theorem wpList_append_one {P : Program} {ops : Array Oper} {rest : List Oper} {o : Oper} {a : Act} {Q : Exit → Act → World → Prop} {w : World} (hgd : o.guard = none) (s x : Operand) (t : TypeId)
    (ho : o.op = .call { callee := .builtin .append, args := #[s, x], argTypes := #[t, t] })
    (base : Nat) (e : TypeId) (z : Value) (size bytes : Nat) (ht : P.underlying t = some (.slice e)) (hi : (P.info? e).map (fun i => (i.zero, i.size, i.bytes)) = some (some z, size, bytes))
    (hzs : z.cells.size = size) (hsz : 0 < size)
    (v : Value) (n : Nat) (xs : List Value) (hs : a.eval s = v) (hown : w.ownsRow base e size v n xs)
    (g : Nat) (news : List Value) (hx : a.eval x = .slice (some ⟨g, 0, none⟩) 1 1) (hg : g = w.heap.size) (hl : news.length = size) (h1 : ∀ u ∈ news, u.oneCell' = true)
    (h63 : n + 1 ≤ maxLen) (hbytes : (n + 1) * bytes ≤ 140737488355328) (hbase : base ≤ w.heap.size)
    (h : ∀ v' w', w'.ownsRow base e size v' (n + 1) (xs ++ news) → Below base w w' → w.grownBy w' v.ownBlock → (v'.ownBlock = v.ownBlock ∨ v'.ownBlock = some (w.heap.size + 1)) → wpList P ops Q rest (a.put o.dst v') w') :
    wpList P ops Q (o :: rest) a (w.alloc (.cells news.toArray e)) := by
  subst hg
  obtain ⟨i0, hi0, hz0, hz1, hz2⟩ := info_parts hi
  refine wpList_append_own_at (w := w.alloc (.cells news.toArray e)) hgd s x t ho base e i0 z size bytes ht hi0 hz0 hz1 hz2 hzs hsz v n xs hs (hown.alloc _) ⟨w.heap.size, 0, none⟩ 1 1 news hx (by omega) ?_ h1 h63 hbytes (by simp; omega) ?_
  · intro j u hj
    have : (⟨w.heap.size, 0, none⟩ : Addr).add j = ⟨w.heap.size, j, none⟩ := by unfold Addr.add; split <;> simp_all
    rw [this, World.cell?_alloc_new]
    simpa using hj
  · intro v' w' h2 h3 _ h5
    have h6 : w.grownBy w' v.ownBlock := (World.grownBy_alloc w _ _).trans h3
    exact h v' w' h2 (below_of_grown hown h6 hbase) h6 (by simpa using h5)
theorem max2_i (k k' : IntKind) (x y : Int) : Builtin.max2 (.int k x) (.int k' y) = pure (.int k (max x y)) := by
  simp only [Builtin.max2]
  congr 2
  split <;> omega
theorem min2_i (k k' : IntKind) (x y : Int) : Builtin.min2 (.int k x) (.int k' y) = pure (.int k (min x y)) := by
  simp only [Builtin.min2]
  congr 2
  split <;> omega
theorem max_2 (ats : Array TypeId) (ty : TypeId) (a b : Value) : Builtin.max_ ats ty #[a, b] = (Builtin.max2 a b >>= fun s => pure s) := by simp only [Builtin.max_, List.foldlM_cons, List.foldlM_nil]
theorem min_2 (ats : Array TypeId) (ty : TypeId) (a b : Value) : Builtin.min_ ats ty #[a, b] = (Builtin.min2 a b >>= fun s => pure s) := by simp only [Builtin.min_, List.foldlM_cons, List.foldlM_nil]
theorem max_3 (ats : Array TypeId) (ty : TypeId) (a b c : Value) : Builtin.max_ ats ty #[a, b, c] = (Builtin.max2 a b >>= fun s => Builtin.max2 s c >>= fun s => pure s) := by simp only [Builtin.max_, List.foldlM_cons, List.foldlM_nil]
theorem min_3 (ats : Array TypeId) (ty : TypeId) (a b c : Value) : Builtin.min_ ats ty #[a, b, c] = (Builtin.min2 a b >>= fun s => Builtin.min2 s c >>= fun s => pure s) := by simp only [Builtin.min_, List.foldlM_cons, List.foldlM_nil]
attribute [go_sem] max2_i min2_i max_2 min_2 max_3 min_3
/-- Behind a grown world, a new block is more growth. -/
theorem World.alloc_grew (w : World) (x : Grown.By) (o : Obj) : (w.grew x).alloc o = w.grew ⟨x.objs.push o, x.drawn⟩ := by
  unfold World.alloc World.grew
  simp
theorem maxLen_le {n : Nat} (h : n ≤ 4294967295) : n ≤ maxLen := by unfold maxLen; omega
end Go
end

section
namespace Go
set_option linter.unusedSimpArgs false
inductive Leaf where
  | int (k : IntKind)
  | bool
  deriving DecidableEq
/-- The fields' offsets are the sums of what stands ahead; none is blank. -/
def offsOk : List Field → List (List Leaf) → Nat → Bool
  | [], [], _ => true
  | f :: fs, l :: ls, o => f.name != "_" && f.offset == o && offsOk fs ls (o + l.length)
  | _, _, _ => false
/-- The cells of a type of whole numbers and bools. -/
def layout (P : Program) : Nat → TypeId → Option (List Leaf)
  | 0, _ => none
  | d + 1, t =>
    match P.underlying t with
    | some .bool => if (P.info? t).isSome && P.cellsOf t == 1 then some [.bool] else none
    | some (.int k) => if (P.info? t).isSome && P.cellsOf t == 1 then some [.int k] else none
    | some (.array n e) => (layout P d e).bind fun l => if (P.info? t).isSome && P.cellsOf t == (List.replicate n l).flatten.length then some (List.replicate n l).flatten else none
    | some (.struct fs) => (fs.toList.mapM fun f => layout P d f.type).bind fun ls => if (P.info? t).isSome && P.cellsOf t == ls.flatten.length && offsOk fs.toList ls 0 && !P.stoodInHeld t then some ls.flatten else none
    | _ => none
def isAggB (P : Program) (t : TypeId) : Bool := match P.underlying t with | some (.struct _) | some (.array _ _) => true | _ => false
section
variable {P : Program} (w : World)
theorem layout_info {d : Nat} {t : TypeId} {ls : List Leaf} (h : layout P d t = some ls) : ∃ i, P.info? t = some i ∧ i.size = ls.length := by
  cases d with
  | zero => simp [layout] at h
  | succ d =>
    have key : ∀ n : Nat, ((P.info? t).isSome && P.cellsOf t == n) = true → ∃ i, P.info? t = some i ∧ i.size = n := by
      intro n hn
      simp only [Bool.and_eq_true, beq_iff_eq] at hn
      obtain ⟨i, hi⟩ := Option.isSome_iff_exists.1 hn.1
      exact ⟨i, hi, by rw [← hn.2]; simp [Program.cellsOf, hi]⟩
    simp only [layout] at h
    split at h
    · split at h
      · cases h; exact key 1 (by assumption)
      · cases h
    · split at h
      · cases h; exact key 1 (by assumption)
      · cases h
    · simp only [Option.bind_eq_some_iff] at h
      obtain ⟨l, _, h⟩ := h
      split at h
      · cases h; exact key _ (by assumption)
      · cases h
    · simp only [Option.bind_eq_some_iff] at h
      obtain ⟨l, _, h⟩ := h
      split at h
      · rename_i hc
        cases h
        simp only [Bool.and_eq_true] at hc
        exact key _ (by simp only [Bool.and_eq_true]; exact hc.1.1)
      · cases h
    · cases h
end
end Go
end

section
namespace Go
open Go.RowKit
theorem bcell {W w1 : World} (hb : Below W.heap.size W w1) : (∀ b o, b < W.heap.size → w1.cell? ⟨b, o, none⟩ = W.cell? ⟨b, o, none⟩) ∧ (∀ b o, b < W.heap.size → w1.frozen? ⟨b, o, none⟩ = W.frozen? ⟨b, o, none⟩) :=
  ⟨fun b o h => hb.cell (p := ⟨b, o, none⟩) h, fun b o h => hb.frozen (p := ⟨b, o, none⟩) h⟩
theorem alloc_at (w : World) (o : Obj) : (w.alloc o).heap[w.heap.size]? = some o := by show (w.heap.push o)[w.heap.size]? = _; simp
/-- U: what stands in each operation's slot. -/
def fillPuts : List Oper → (Nat → Value) → Nat → Act → Act
  | [], _, _, a => a
  | o :: l, U, i, a => fillPuts l U (i + 1) (a.put o.dst (U i))
def updU (U : Nat → Value) (i : Nat) (v : Value) : Nat → Value := fun j => if j = i then v else U j
def maskU (S : List Nat) (U : Nat → Value) : Nat → Value := fun j => if S.contains j then U j else undef
def predsOf (o : Oper) : List Nat := o.after.toList.filterMap fun e => if Region.binds .any e then some e.on else none
def slotOf (a : Act) (dst : Option Tmp) : Value := match dst with | some d => a.tmps.getD d undef | none => undef
abbrev RelU := (Nat → Value) → World → Prop
def HypsU (Rs : List RelU) (U : Nat → Value) (w : World) : List Nat → Prop
  | [] => True
  | p :: ps => (Rs.getD p fun _ _ => True) U w ∧ HypsU Rs U w ps
def AllU (U : Nat → Value) (w : World) : List RelU → Prop
  | [] => True
  | r :: rs => r U w ∧ AllU U w rs
def InvPost (T : World → World → Prop) (d : List Deferred) (w : World) (dst : Option Tmp) (G : Value → World → Prop) (e : Exit) (a' : Act) (w' : World) : Prop :=
  e = .normal ∧ a'.defers = d ∧ T w w' ∧ G (slotOf a' dst) w'
/-- The block that a value points into. -/
def blkOf : Value → Option Nat
  | .pointer (some a) => some a.block
  | .slice (some a) _ _ => some a.block
  | .map (some m) => some m
  | _ => none
/-- A value that points into a block made between two worlds. -/
def FreshV (v : Value) (w w' : World) : Prop := ∃ p, blkOf v = some p ∧ w.heap.size ≤ p ∧ p < w'.heap.size
/-- The fresh values differ. -/
def ApartF (F : List Nat) (U : Nat → Value) : Prop := ∀ i j, F.contains i = true → F.contains j = true → i ≠ j → blkOf (U i) ≠ blkOf (U j)
section
variable {P : Program} {ops : Array Oper}
/-- The walk: for each operation of the head what holds of its value. -/
def wpInv (P : Program) (ops : Array Oper) (F : List Nat) (C : World → Prop) (T : World → World → Prop) (hd : List Oper) (a0 : Act) (fin : (Nat → Value) → World → Prop) : Nat → List RelU → List Oper → Prop
  | _, Rs, [] => ∀ U w, C w → AllU U w Rs → ApartF F U → fin U w
  | i, Rs, o :: rest => ∃ r : RelU, (∀ U w, r U w = r (maskU (i :: predsOf o) U) w) ∧ (∀ U w w', C w → T w w' → r U w → r U w') ∧
      (∀ U w, C w → HypsU Rs U w (predsOf o) → wpList P ops (InvPost T a0.defers w o.dst fun v w' => r (updU U i v) w' ∧ (F.contains i = true → FreshV v w w')) [o] (fillPuts hd U 0 a0) w) ∧
      wpInv P ops F C T hd a0 fin (i + 1) (Rs ++ [r]) rest
theorem fillPuts_defers : ∀ (l : List Oper) (U : Nat → Value) (i : Nat) (a : Act), (fillPuts l U i a).defers = a.defers
  | [], _, _, _ => rfl
  | o :: l, U, i, a => by
    rw [fillPuts, fillPuts_defers l]
    unfold Act.put; split <;> rfl
theorem Act.put_put (a : Act) (d : Option Tmp) (u v : Value) : (a.put d u).put d v = a.put d v := by
  unfold Act.put
  cases d with
  | none => rfl
  | some d => simp
/-- No slot is written twice. -/
def distinctDst : List Oper → Bool
  | [] => true
  | o :: l => (match o.dst with | some d => l.all (fun p => p.dst != some d) | none => true) && distinctDst l
theorem put_fill_comm {d : Option Tmp} {v : Value} : ∀ (l : List Oper) (U : Nat → Value) (i : Nat) (a : Act), (∀ t, d = some t → l.all (fun p => p.dst != some t) = true) →
    fillPuts l U i (a.put d v) = (fillPuts l U i a).put d v
  | [], _, _, _, _ => rfl
  | o :: l, U, i, a, h => by
    simp only [fillPuts]
    rw [← put_fill_comm l U (i + 1) (a.put o.dst (U i)) (fun t ht => by
      have := h t ht
      simp only [List.all_cons, Bool.and_eq_true] at this
      exact this.2)]
    congr 1
    refine Act.put_comm a v (U i) ?_
    intro t ht ht2
    have := h t ht
    simp only [List.all_cons, Bool.and_eq_true, bne_iff_ne, ne_eq] at this
    exact this.1 ht2
theorem fillPuts_upd_lt : ∀ (l : List Oper) (U : Nat → Value) (k i : Nat) (v : Value) (a : Act), k < i → fillPuts l (updU U k v) i a = fillPuts l U i a
  | [], _, _, _, _, _, _ => rfl
  | o :: l, U, k, i, v, a, h => by
    simp only [fillPuts]
    rw [fillPuts_upd_lt l U k (i + 1) v _ (by omega)]
    have : updU U k v i = U i := by unfold updU; rw [if_neg (by omega)]
    rw [this]
theorem fillPuts_put : ∀ (l : List Oper) (U : Nat → Value) (i k : Nat) (o : Oper) (v : Value) (a : Act), distinctDst l = true → l[k]? = some o →
    (fillPuts l U i a).put o.dst v = fillPuts l (updU U (i + k) v) i a
  | [], _, _, _, _, _, _, _, h => by simp at h
  | p :: l, U, i, 0, o, v, a, hd, h => by
    obtain rfl : p = o := by simpa using h
    simp only [distinctDst, Bool.and_eq_true] at hd
    simp only [fillPuts, Nat.add_zero]
    rw [fillPuts_upd_lt l U i (i + 1) v _ (by omega), ← put_fill_comm l U (i + 1) _ (fun t ht => by have := hd.1; rw [ht] at this; simpa using this), Act.put_put]
    have : updU U i v i = v := by unfold updU; rw [if_pos rfl]
    rw [this]
  | p :: l, U, i, k + 1, o, v, a, hd, h => by
    simp only [distinctDst, Bool.and_eq_true] at hd
    simp only [fillPuts]
    rw [fillPuts_put l U (i + 1) k o v _ hd.2 (by simpa using h), show i + 1 + k = i + (k + 1) by omega]
    have : updU U (i + (k + 1)) v i = U i := by unfold updU; rw [if_neg (by omega)]
    rw [this]
theorem put_slot (a : Act) (d : Option Tmp) (v : Value) : a.put d (slotOf (a.put d v) d) = a.put d v := by
  cases d with
  | none => rfl
  | some d =>
    simp only [Act.put, slotOf]
    by_cases h : d < a.tmps.size
    · simp [h]
    · rw [Array.setIfInBounds_eq_of_size_le (Nat.le_of_not_lt h), Array.setIfInBounds_eq_of_size_le (Nat.le_of_not_lt h)]
theorem updU_eq (U : Nat → Value) (i : Nat) (v : Value) : updU U i v i = v := by unfold updU; rw [if_pos rfl]
theorem maskU_upd {S : List Nat} {U : Nat → Value} {i : Nat} {v : Value} (h : S.contains i = false) : maskU S (updU U i v) = maskU S U := by
  funext j
  unfold maskU updU
  by_cases e : j = i
  · subst e; rw [h]; rfl
  · rw [if_neg e]
theorem wpOp_of_list_inv {i : Nat} {o : Oper} {K : Act → World → Prop} {Q : Exit → Act → World → Prop} {a : Act} {w : World} {T : World → World → Prop} {d : List Deferred} {G : Value → World → Prop}
    (hi : ops[i]? = some o) (hd : a.defers = d)
    (hK : ∀ v w', T w w' → G (slotOf (a.put o.dst v) o.dst) w' → K (a.put o.dst v) w')
    (h : wpList P ops (InvPost T d w o.dst G) [o] a w) : wpOp P ops Q i K a w := by
  have hQ : ∀ v w', InvPost T d w o.dst G .normal (a.put o.dst v) w' → K (a.put o.dst v) w' := fun v w' h => hK v w' h.2.2.1 h.2.2.2
  have hF : ¬ LetsOut (InvPost T d w o.dst G) := by
    rintro ⟨a1, w1, h1⟩
    exact absurd h1.1 (by simp)
  unfold wpOp
  simp only [hi]
  unfold wpList at h
  split
  · rename_i hw
    rw [if_pos hw] at h
    rcases h with h | ⟨_, h⟩
    · refine .inl ?_
      unfold Oper.wp at *
      generalize (execOp a.eval o).run P w = r at *
      cases r with
      | ok n w' =>
        cases n <;> simp only [Oper.upon] at h ⊢
        case value u => exact hQ _ _ h
        case skip => exact hQ _ _ h
        case defer c =>
          have h2 : (({ a with defers := c :: a.defers } : Act).put o.dst undef).defers = d := h.2.1
          have h3 : (({ a with defers := c :: a.defers } : Act).put o.dst undef).defers = c :: a.defers := by unfold Act.put; split <;> rfl
          rw [h3, ← hd] at h2
          exact absurd (congrArg List.length h2) (by simp)
        case enter f args =>
          refine Calls.mono h fun e w'' he => ?_
          cases e with
          | returned u => exact hQ _ _ he
          | panicked c => exact absurd he.1 (by simp)
          | outgrown => exact absurd he hF
        case row row args => exact Rows.mono h fun u w'' he => hQ _ _ he
      | halt x w' =>
        cases x <;> simp only [Oper.upon] at h ⊢
        case panic u => exact absurd h.1 (by simp)
    · exact absurd h hF
  · rename_i hw
    rw [if_neg hw] at h
    exact hQ _ _ h
theorem wpList_post {o : Oper} {a : Act} {w : World} {T : World → World → Prop} {d : List Deferred} {dst : Option Tmp} {G G' : Value → World → Prop}
    (hG : ∀ a' w', InvPost T d w dst G .normal a' w' → InvPost T d w dst G' .normal a' w') (h : wpList P ops (InvPost T d w dst G) [o] a w) : wpList P ops (InvPost T d w dst G') [o] a w := by
  have hF : ¬ LetsOut (InvPost T d w dst G) := by
    rintro ⟨a1, w1, h1⟩
    exact absurd h1.1 (by simp)
  unfold wpList at h ⊢
  split
  · rename_i hw
    rw [if_pos hw] at h
    rcases h with h | ⟨_, h⟩
    · refine .inl ?_
      unfold Oper.wp at *
      generalize (execOp a.eval o).run P w = r at *
      cases r with
      | ok n w' =>
        cases n <;> simp only [Oper.upon] at h ⊢
        case value u => exact hG _ _ h
        case skip => exact hG _ _ h
        case defer c => exact hG _ _ h
        case enter f args =>
          refine Calls.mono h fun e w'' he => ?_
          cases e with
          | returned u => exact hG _ _ he
          | panicked c => exact absurd he.1 (by simp)
          | outgrown => exact absurd he hF
        case row row args => exact Rows.mono h fun u w'' he => hG _ _ he
      | halt x w' =>
        cases x <;> simp only [Oper.upon] at h ⊢
        case panic u => exact absurd h.1 (by simp)
    · exact absurd h hF
  · rename_i hw
    rw [if_neg hw] at h
    exact hG _ _ h
/-- Every edge leads back. -/
def backB (ops : Array Oper) : Bool := (List.range ops.size).all fun i => ((ops[i]?).map fun o => o.after.all fun e => !Region.binds .any e || decide (e.on < i)).getD true
def seqAfter (ops : Array Oper) (n : Nat) : Bool := Region.seqB .any ops (ops.size - n) n ((List.range ops.size).map fun i => decide (i < n)).toArray
def invB (ops : Array Oper) (n : Nat) : Bool :=
  decide (n < ops.size) && Region.sinkB .any ops n && Region.chainB .any ops n && backB ops && distinctDst (ops.toList.take n) && seqAfter ops n
theorem backB_spec (h : backB ops = true) {i : Nat} {o : Oper} (ho : ops[i]? = some o) : ∀ e ∈ o.after, Region.binds .any e = true → e.on < i := by
  intro e he hb
  have hlt : i < ops.size := (Array.getElem?_eq_some_iff.1 ho).1
  have h1 := List.all_eq_true.1 h i (List.mem_range.2 hlt)
  rw [ho] at h1
  simp only [Option.map_some, Option.getD_some, Array.all_eq_true_iff_forall_mem, Bool.or_eq_true, Bool.not_eq_true', decide_eq_true_eq] at h1
  rcases h1 e he with h2 | h2
  · rw [hb] at h2; cases h2
  · exact h2
theorem of_mem_predsOf {o : Oper} {p : Nat} (h : p ∈ predsOf o) : ∃ e ∈ o.after, Region.binds .any e = true ∧ e.on = p := by
  unfold predsOf at h
  rw [List.mem_filterMap] at h
  obtain ⟨e, he, h2⟩ := h
  split at h2
  · rename_i hb
    exact ⟨e, by simpa using he, hb, by simpa using h2⟩
  · cases h2
/-- What is known of a head: each operation's relation, that it looks at no other's value, that it stays, and its step. -/
structure HeadOK (P : Program) (ops : Array Oper) (F : List Nat) (C : World → Prop) (T : World → World → Prop) (hd : List Oper) (a0 : Act) (Rs : List RelU) : Prop where
  len : Rs.length = hd.length
  loc : ∀ j o, hd[j]? = some o → ∀ U w, (Rs.getD j fun _ _ => True) U w = (Rs.getD j fun _ _ => True) (maskU (j :: predsOf o) U) w
  stay : ∀ j U w w', C w → T w w' → (Rs.getD j fun _ _ => True) U w → (Rs.getD j fun _ _ => True) U w'
  step : ∀ j o, hd[j]? = some o → ∀ U w, C w → HypsU Rs U w (predsOf o) → wpList P ops (InvPost T a0.defers w o.dst fun v w' => (Rs.getD j fun _ _ => True) (updU U j v) w' ∧ (F.contains j = true → FreshV v w w')) [o] (fillPuts hd U 0 a0) w
theorem hypsU_append {Rs : List RelU} {more : List RelU} {U : Nat → Value} {w : World} : ∀ (ps : List Nat), (∀ p ∈ ps, p < Rs.length) → HypsU (Rs ++ more) U w ps → HypsU Rs U w ps
  | [], _, _ => trivial
  | p :: ps, hl, h => by
    refine ⟨?_, hypsU_append ps (fun q hq => hl q (by simp [hq])) h.2⟩
    have := h.1
    rwa [List.getD_eq_getElem?_getD, List.getElem?_append_left (hl p (by simp)), ← List.getD_eq_getElem?_getD] at this
theorem wpInv_ok {F : List Nat} {C : World → Prop} {T : World → World → Prop} {hd : List Oper} {a0 : Act} {fin : (Nat → Value) → World → Prop}
    (hback : ∀ j o, hd[j]? = some o → ∀ p ∈ predsOf o, p < j) :
    ∀ (rest : List Oper) (i : Nat) (Rs : List RelU), Rs.length = i → hd.drop i = rest → i ≤ hd.length →
      (∀ j o, j < i → hd[j]? = some o → ∀ U w, (Rs.getD j fun _ _ => True) U w = (Rs.getD j fun _ _ => True) (maskU (j :: predsOf o) U) w) →
      (∀ j U w w', j < i → C w → T w w' → (Rs.getD j fun _ _ => True) U w → (Rs.getD j fun _ _ => True) U w') →
      (∀ j o, j < i → hd[j]? = some o → ∀ U w, C w → HypsU Rs U w (predsOf o) → wpList P ops (InvPost T a0.defers w o.dst fun v w' => (Rs.getD j fun _ _ => True) (updU U j v) w' ∧ (F.contains j = true → FreshV v w w')) [o] (fillPuts hd U 0 a0) w) →
      wpInv P ops F C T hd a0 fin i Rs rest → ∃ Rs', HeadOK P ops F C T hd a0 Rs' ∧ ∀ U w, C w → AllU U w Rs' → ApartF F U → fin U w
  | [], i, Rs, hl, hdrop, hle, h1, h2, h3, h => by
    have hi : hd.length = i := by
      have := congrArg List.length hdrop
      simp at this
      omega
    refine ⟨Rs, ⟨by omega, fun j o hj => h1 j o (by rw [← hi]; exact (List.getElem?_eq_some_iff.1 hj).1) hj, fun j U w w' => ?_, fun j o hj => h3 j o (by rw [← hi]; exact (List.getElem?_eq_some_iff.1 hj).1) hj⟩, h⟩
    by_cases hj : j < i
    · exact h2 j U w w' hj
    · intro _ _ _
      rw [List.getD_eq_getElem?_getD, List.getElem?_eq_none (by omega)]
      trivial
  | o :: rest, i, Rs, hl, hdrop, hle, h1, h2, h3, h => by
    obtain ⟨r, ha, hb, hc, hn⟩ := h
    have hoi : hd[i]? = some o := by
      have := congrArg (fun l => l[0]?) hdrop
      simpa using this
    have hlt : i < hd.length := (List.getElem?_eq_some_iff.1 hoi).1
    have gl : ∀ j, j < i → (Rs ++ [r]).getD j (fun _ _ => True) = Rs.getD j (fun _ _ => True) := fun j hj => by
      rw [List.getD_eq_getElem?_getD, List.getElem?_append_left (by omega), ← List.getD_eq_getElem?_getD]
    have gi : (Rs ++ [r]).getD i (fun _ _ => True) = r := by
      rw [List.getD_eq_getElem?_getD, List.getElem?_append_right (by omega)]
      simp [hl]
    refine wpInv_ok hback rest (i + 1) (Rs ++ [r]) (by simp [hl]) ?_ (by omega) ?_ ?_ ?_ hn
    · rw [← List.drop_drop, hdrop]; rfl
    · intro j p hj hp U w
      by_cases e : j = i
      · subst e
        rw [gi]
        obtain rfl : p = o := Option.some.inj (hp.symm.trans hoi)
        exact ha U w
      · rw [gl j (by omega)]; exact h1 j p (by omega) hp U w
    · intro j U w w' hj
      by_cases e : j = i
      · subst e; rw [gi]; exact hb U w w'
      · rw [gl j (by omega)]; exact h2 j U w w' (by omega)
    · intro j p hj hp U w hC hH
      have hp' : ∀ q ∈ predsOf p, q < Rs.length := fun q hq => by have := hback j p hp q hq; omega
      have hH' := hypsU_append (predsOf p) hp' hH
      by_cases e : j = i
      · subst e
        rw [gi]
        obtain rfl : p = o := Option.some.inj (hp.symm.trans hoi)
        exact hc U w hC hH'
      · rw [gl j (by omega)]
        exact h3 j p (by omega) hp U w hC hH'
theorem hypsU_of {Rs : List RelU} {U : Nat → Value} {w : World} : ∀ (ps : List Nat), (∀ p ∈ ps, (Rs.getD p fun _ _ => True) U w) → HypsU Rs U w ps
  | [], _ => trivial
  | p :: ps, h => ⟨h p (by simp), hypsU_of ps fun q hq => h q (by simp [hq])⟩
theorem allU_of {U : Nat → Value} {w : World} : ∀ (Rs : List RelU), (∀ j, j < Rs.length → (Rs.getD j fun _ _ => True) U w) → AllU U w Rs
  | [], _ => trivial
  | r :: rs, h => ⟨by simpa using h 0 (by simp), allU_of rs fun j hj => by simpa using h (j + 1) (by simpa using hj)⟩
theorem wpAny_of_inv {F : List Nat} {C : World → Prop} {T : World → World → Prop} {n : Nat} {a0 : Act} {Rs : List RelU} {Q : Exit → Act → World → Prop} {l : List Oper} (hops : ops = l.toArray) (hB : invB ops n = true)
    (hCT : ∀ w w', C w → T w w' → C w') (hTs : ∀ w w', T w w' → w.heap.size ≤ w'.heap.size) (hFn : F.all (fun i => decide (i < n)) = true) (hOK : HeadOK P ops F C T (l.take n) a0 Rs)
    (hfin : ∀ U w, C w → AllU U w Rs → ApartF F U → wpList P ops Q (l.drop n) (fillPuts (l.take n) U 0 a0) w) :
    ∀ (f : Nat) (L : List Nat) (listed : Array Bool) (U : Nat → Value) (w : World), L.Nodup → L.length = f → (∀ j, j ∈ L ↔ j < n ∧ listed.getD j true = false) → HeadInv .any ops n listed → C w →
      (∀ j, j < n → listed.getD j false = true → (Rs.getD j fun _ _ => True) U w) → (∀ j, F.contains j = true → listed.getD j false = true → ∃ p, blkOf (U j) = some p ∧ p < w.heap.size) →
      (∀ i j, F.contains i = true → F.contains j = true → i ≠ j → listed.getD i false = true → listed.getD j false = true → blkOf (U i) ≠ blkOf (U j)) → wpAny P .any ops Q (f + (ops.size - n)) listed (fillPuts (l.take n) U 0 a0) w := by
  simp only [invB, Bool.and_eq_true, decide_eq_true_eq] at hB
  obtain ⟨⟨⟨⟨⟨hn, hs⟩, hc⟩, hback⟩, hdist⟩, hseq⟩ := hB
  have hlen : (l.take n).length = n := by subst hops; simp at hn ⊢; omega
  have hdl : (l.drop n).length = ops.size - n := by subst hops; simp
  intro f
  induction f with
  | zero =>
    intro L listed U w hnd hL hmem inv hC hR hFb hFd
    have hL0 : L = [] := List.length_eq_zero_iff.1 hL
    subst hL0
    have hall : ∀ j, j < n → listed.getD j true = true := fun j hj => by
      cases h : listed.getD j true with
      | true => rfl
      | false => exact absurd ((hmem j).2 ⟨hj, h⟩) (by simp)
    have hlisted : listed = ((List.range ops.size).map fun i => decide (i < n)).toArray := by
      apply Array.ext
      · simp [inv.size]
      · intro i h1 h2
        simp only [List.getElem_toArray, List.getElem_map, List.getElem_range]
        by_cases hi : i < n
        · have := hall i hi
          simp [h1] at this
          simp [this, hi]
        · have := inv.tail i (by omega) (by rw [← inv.size]; exact h1)
          simp [h1] at this
          simp [this, hi]
    rw [Nat.zero_add, ← hdl]
    refine wpAny_of_seq (l.drop n) n listed _ w (fun j => by subst hops; simp [List.getElem?_drop]) (by rw [hdl, hlisted]; exact hseq) ?_
    have hallf : ∀ j, j < n → listed.getD j false = true := fun j hjn => by
      have := hall j hjn
      have hjs : j < listed.size := by rw [inv.size]; omega
      simp [hjs] at this ⊢
      exact this
    have hFn' : ∀ j, F.contains j = true → j < n := fun j hj => by
      have := List.all_eq_true.1 hFn j (List.contains_iff_mem.1 hj)
      simpa using this
    refine hfin U w hC (allU_of Rs fun j hj => hR j (by rw [hOK.len, hlen] at hj; exact hj) (hallf j (by rw [hOK.len, hlen] at hj; exact hj))) (fun i j hi hj hij => hFd i j hi hj hij (hallf i (hFn' i hi)) (hallf j (hFn' j hj)))
  | succ f ih =>
    intro L listed U w hnd hL hmem inv hC hR hFb hFd
    have hne : L ≠ [] := fun h => by subst h; simp at hL
    obtain ⟨i0, hi0⟩ := List.exists_mem_of_ne_nil L hne
    obtain ⟨hi0n, hi0u⟩ := (hmem i0).1 hi0
    -- the least one that is not listed may come up
    have hready : Region.ready .any ops listed ≠ [] := by
      have key : ∀ (d i : Nat), i ≤ d → i < n → listed.getD i true = false → Region.ready .any ops listed ≠ [] := by
        intro d
        induction d with
        | zero =>
          intro i hid hin hiu
          have hi : i = 0 := by omega
          subst hi
          have hlt : 0 < ops.size := by omega
          intro h
          have : 0 ∈ Region.ready .any ops listed := mem_ready.2 ⟨hiu, ops[0], by simp [hlt], fun e he hb => absurd (backB_spec hback (i := 0) (by simp [hlt]) e he hb) (by omega)⟩
          rw [h] at this; cases this
        | succ d ihd =>
          intro i hid hin hiu
          have hlt : i < ops.size := by omega
          by_cases hex : ∃ e ∈ ops[i].after, Region.binds .any e = true ∧ listed.getD e.on false = false
          · obtain ⟨e, he, hb, hu⟩ := hex
            have hlt2 := backB_spec hback (i := i) (by simp [hlt]) e he hb
            exact ihd e.on (by omega) (by omega) (getD_in (by rw [inv.size]; omega) hu)
          · intro h
            have : i ∈ Region.ready .any ops listed := mem_ready.2 ⟨hiu, ops[i], by simp [hlt], fun e he hb => by
              cases h' : listed.getD e.on false with
              | true => rfl
              | false => exact absurd ⟨e, he, hb, h'⟩ hex⟩
            rw [h] at this; cases this
      exact key i0 i0 (Nat.le_refl _) hi0n hi0u
    rw [show f + 1 + (ops.size - n) = (f + (ops.size - n)) + 1 by omega]
    refine ⟨fun h => absurd h hready, fun i hi => ?_⟩
    obtain ⟨hiu, o, ho, hall⟩ := mem_ready.1 hi
    have hin : i < n := by
      rcases Nat.lt_or_ge i n with h | h
      · exact h
      · exact absurd hi (tail_waits hs hc hn inv _ i0 rfl hi0n hi0u i h)
    have hio : (l.take n)[i]? = some o := by
      subst hops
      rw [List.getElem?_take_of_lt hin]
      simpa using ho
    have hp : ∀ p ∈ predsOf o, p < n ∧ listed.getD p false = true := fun p hp => by
      obtain ⟨e, he, hb, rfl⟩ := of_mem_predsOf hp
      have := backB_spec hback ho e he hb
      exact ⟨by omega, hall e he hb⟩
    have hstep := hOK.step i o hio U w hC (hypsU_of _ fun p hpp => hR p (hp p hpp).1 (hp p hpp).2)
    refine wpOp_of_list_inv ho (fillPuts_defers _ _ _ _) (fun v w' hT hG => ?_) hstep
    have hC' := hCT w w' hC hT
    rw [← put_slot, fillPuts_put (l.take n) U 0 i o _ a0 (by subst hops; simpa using hdist) hio, Nat.zero_add]
    refine ih (L.erase i) (listed.setIfInBounds i true) _ w' (hnd.erase i) (by rw [List.length_erase_of_mem ((hmem i).2 ⟨hin, hiu⟩), hL]; rfl) (fun j => ?_) (inv.set hi hin) hC' (fun j hj hjl => ?_) ?_ ?_
    · rw [hnd.mem_erase_iff, hmem j]
      by_cases e : i = j
      · subst e
        constructor
        · rintro ⟨h, _⟩; exact absurd rfl h
        · rintro ⟨_, h⟩
          have hsz : i < listed.size := by rw [inv.size]; omega
          simp [hsz] at h
      · rw [getD_set_ne true e]
        constructor
        · rintro ⟨_, h⟩; exact h
        · intro h; exact ⟨fun h' => e h'.symm, h⟩
    · by_cases e : i = j
      · subst e; exact hG.1
      · rw [getD_set_ne false e] at hjl
        have hj1 := hOK.stay j U w w' hC hT (hR j hj hjl)
        have hjs : j < ops.size := by omega
        obtain ⟨oj, hoj⟩ : ∃ oj, ops[j]? = some oj := ⟨ops[j], by simp [hjs]⟩
        have hjo : (l.take n)[j]? = some oj := by
          subst hops
          rw [List.getElem?_take_of_lt hj]
          simpa using hoj
        have hni : (j :: predsOf oj).contains i = false := by
          rw [Bool.eq_false_iff]
          intro h
          rcases List.mem_cons.1 (List.contains_iff_mem.1 h) with h | h
          · exact e h
          · obtain ⟨e', he', hb', rfl⟩ := of_mem_predsOf h
            have := inv.closed j oj hoj hjl e' he' hb'
            rw [getD_both hiu] at this
            cases this
        rw [hOK.loc j oj hjo, maskU_upd hni, ← hOK.loc j oj hjo]
        exact hj1
    · intro j hj hjl
      by_cases e : i = j
      · subst e
        obtain ⟨p, hp1, _, hp2⟩ := hG.2 hj
        exact ⟨p, by rw [updU_eq]; exact hp1, hp2⟩
      · rw [getD_set_ne false e] at hjl
        obtain ⟨p, hp1, hp2⟩ := hFb j hj hjl
        refine ⟨p, ?_, Nat.lt_of_lt_of_le hp2 (hTs _ _ hT)⟩
        have : updU U i (slotOf (fillPuts (l.take n) U 0 a0 |>.put o.dst v) o.dst) j = U j := by unfold updU; rw [if_neg (fun h => e h.symm)]
        rw [this]; exact hp1
    · intro j k hj hk hjk hjl hkl
      have old : ∀ q, i ≠ q → updU U i (slotOf (fillPuts (l.take n) U 0 a0 |>.put o.dst v) o.dst) q = U q := fun q e => by unfold updU; rw [if_neg (fun h => e h.symm)]
      by_cases e : i = j
      · subst e
        have e2 : i ≠ k := hjk
        rw [getD_set_ne false e2] at hkl
        obtain ⟨p, hp1, hp2, _⟩ := hG.2 hj
        obtain ⟨q, hq1, hq2⟩ := hFb k hk hkl
        rw [updU_eq, old k e2, hp1, hq1]
        intro h
        have := Option.some.inj h
        omega
      · rw [getD_set_ne false e] at hjl
        by_cases e2 : i = k
        · subst e2
          obtain ⟨p, hp1, hp2, _⟩ := hG.2 hk
          obtain ⟨q, hq1, hq2⟩ := hFb j hj hjl
          rw [updU_eq, old j e, hp1, hq1]
          intro h
          have := Option.some.inj h
          omega
        · rw [getD_set_ne false e2] at hkl
          rw [old j e, old k e2]
          exact hFd j k hj hk hjk hjl hkl
/-- An operation whose value hangs on the values ahead of it alone. -/
theorem wpInv_det {F : List Nat} {C : World → Prop} {T : World → World → Prop} {hd : List Oper} {a0 : Act} {fin : (Nat → Value) → World → Prop} {i : Nat} {Rs : List RelU} {o : Oper} {rest : List Oper} (hp : (predsOf o).contains i = false) (hF : F.contains i = false)
    (h : ∃ f : (Nat → Value) → Value, (∀ U w, C w → HypsU Rs U w (predsOf o) → wpList P ops (InvPost T a0.defers w o.dst fun v _ => v = f U) [o] (fillPuts hd U 0 a0) w) ∧
      (∀ U, f U = f (maskU (predsOf o) U)) ∧ wpInv P ops F C T hd a0 fin (i + 1) (Rs ++ [fun U _ => U i = f U]) rest) : wpInv P ops F C T hd a0 fin i Rs (o :: rest) := by
  obtain ⟨f, h1, h2, h3⟩ := h
  have e1 : ∀ U, maskU (predsOf o) (maskU (i :: predsOf o) U) = maskU (predsOf o) U := fun U => by
    funext j
    unfold maskU
    by_cases hj : (predsOf o).contains j = true
    · rw [if_pos hj, if_pos hj, if_pos (by simp at hj ⊢; exact .inr hj)]
    · rw [if_neg hj, if_neg hj]
  refine ⟨fun U _ => U i = f U, fun U w => ?_, fun _ _ _ _ _ h => h, fun U w hC hH => ?_, h3⟩
  · have e2 : maskU (i :: predsOf o) U i = U i := by unfold maskU; rw [if_pos (by simp)]
    have e3 : f (maskU (i :: predsOf o) U) = f U := by rw [h2, e1, ← h2]
    show (U i = f U) = (maskU (i :: predsOf o) U i = f (maskU (i :: predsOf o) U))
    rw [e2, e3]
  · refine wpList_post (fun a' w' hq => ?_) (h1 U w hC hH)
    refine ⟨hq.1, hq.2.1, hq.2.2.1, ?_, fun h => by rw [hF] at h; cases h⟩
    have hq4 := hq.2.2.2
    show updU U i (slotOf a' o.dst) i = f (updU U i (slotOf a' o.dst))
    rw [updU_eq, hq4, h2 (updU U i (f U)), maskU_upd hp, ← h2]
/-- What stands in the slots at the beginning. -/
theorem fillPuts_start : ∀ (l : List Oper) (i : Nat) (a : Act), ∃ U, fillPuts l U i a = a
  | [], _, a => ⟨fun _ => undef, rfl⟩
  | o :: l, i, a => by
    obtain ⟨U, hU⟩ := fillPuts_start l (i + 1) a
    refine ⟨updU U i (slotOf a o.dst), ?_⟩
    simp only [fillPuts, updU_eq]
    rw [fillPuts_upd_lt l U i (i + 1) _ _ (by omega)]
    have : a.put o.dst (slotOf a o.dst) = a := by
      unfold Act.put slotOf
      cases o.dst with
      | none => rfl
      | some d =>
        simp only
        by_cases h : d < a.tmps.size
        · obtain ⟨tm, df⟩ := a
          congr 1
          apply Array.ext
          · simp
          · intro k h1 h2
            rw [Array.getElem_setIfInBounds]
            split
            · rename_i e; subst e; simp
            · rfl
        · rw [Array.setIfInBounds_eq_of_size_le (Nat.le_of_not_lt h)]
    rw [this]
    exact hU
theorem wp_region_inv {id : Nat} {Q : Exit → Act → World → Prop} {a : Act} {w : World} {l : List Oper} (F : List Nat) (C : World → Prop) (T : World → World → Prop) (n : Nat) (hm : P.follows .mixedOrders = true) (hB : invB l.toArray n = true)
    (hFn : F.all (fun i => decide (i < n)) = true) (hC : C w.drew) (hCT : ∀ w w', C w → T w w' → C w') (hTs : ∀ w w', T w w' → w.heap.size ≤ w'.heap.size)
    (h : wpInv P l.toArray F C T (l.take n) a (fun U w => wpList P l.toArray Q (l.drop n) (fillPuts (l.take n) U 0 a) w) 0 [] (l.take n)) : (Code.region id l.toArray true).wp P Q a w := by
  refine wp_region_any hm ?_
  have hB' := hB
  simp only [invB, Bool.and_eq_true, decide_eq_true_eq] at hB'
  obtain ⟨⟨⟨⟨⟨hn, hs⟩, hc⟩, hback⟩, hdist⟩, hseq⟩ := hB'
  have hn' : n < l.length := by simpa using hn
  obtain ⟨Rs, hOK, hfin⟩ := wpInv_ok (P := P) (hd := l.take n) (fun j o hj p hp => by
    obtain ⟨e, he, hb, rfl⟩ := of_mem_predsOf hp
    have hjn : j < n := by have := (List.getElem?_eq_some_iff.1 hj).1; simp at this; omega
    rw [List.getElem?_take_of_lt hjn] at hj
    exact backB_spec hback (i := j) (by simpa using hj) e he hb) (l.take n) 0 [] rfl rfl (by omega) (fun j o hj => absurd hj (by omega)) (fun j U w w' hj => absurd hj (by omega)) (fun j o hj => absurd hj (by omega)) h
  obtain ⟨U, hU⟩ := fillPuts_start (l.take n) 0 a
  have := wpAny_of_inv (P := P) (Q := Q) rfl hB hCT hTs hFn hOK hfin n (List.range n) (Array.replicate l.toArray.size false) U { w with drawn := w.drawn + 1 } List.nodup_range (by simp) (fun j => by
      rw [List.mem_range]
      constructor
      · intro hj
        exact ⟨hj, getD_in (by simp; omega) (getD_replicate_false _ _)⟩
      · exact fun h => h.1)
    ⟨by simp, fun j oj _ hl => (by rw [getD_replicate_false] at hl; cases hl), fun t _ ht => getD_in (by simpa using ht) (getD_replicate_false _ _)⟩ hC (fun j _ hl => by rw [getD_replicate_false] at hl; cases hl) (fun j _ hl => by rw [getD_replicate_false] at hl; cases hl) (fun i j _ _ _ hl => by rw [getD_replicate_false] at hl; cases hl)
  rw [hU] at this
  have e : n + (l.toArray.size - n) = l.toArray.size := by omega
  rwa [e] at this
end
end Go
end

section
namespace Go.RI
open Go Go.RowKit
section
variable {P : Program} {ops : Array Oper}
/-- The walk: for each operation of the head what holds of its value. -/
def wpInv (P : Program) (ops : Array Oper) (F : List Nat) (C : (Nat → Bool) → World → Prop) (T : Nat → World → World → Prop) (hd : List Oper) (a0 : Act) (fin : (Nat → Value) → World → Prop) : Nat → List RelU → List Oper → Prop
  | i, Rs, [] => ∀ D U w, (∀ k, k < i → D k = true) → C D w → AllU U w Rs → ApartF F U → fin U w
  | i, Rs, o :: rest => ∃ r : RelU, (∀ U w, r U w = r (maskU (i :: predsOf o) U) w) ∧ (∀ k D U w w', k ≠ i → D k = false → C D w → T k w w' → r U w → r U w') ∧
      (∀ D U w, D i = false → C D w → HypsU Rs U w (predsOf o) → wpList P ops (InvPost (T i) a0.defers w o.dst fun v w' => r (updU U i v) w' ∧ (F.contains i = true → FreshV v w w')) [o] (fillPuts hd U 0 a0) w) ∧
      wpInv P ops F C T hd a0 fin (i + 1) (Rs ++ [r]) rest
/-- What is known of a head: each operation's relation, that it looks at no other's value, that it stays, and its step. -/
structure HeadOK (P : Program) (ops : Array Oper) (F : List Nat) (C : (Nat → Bool) → World → Prop) (T : Nat → World → World → Prop) (hd : List Oper) (a0 : Act) (Rs : List RelU) : Prop where
  len : Rs.length = hd.length
  loc : ∀ j o, hd[j]? = some o → ∀ U w, (Rs.getD j fun _ _ => True) U w = (Rs.getD j fun _ _ => True) (maskU (j :: predsOf o) U) w
  stay : ∀ k j D U w w', k ≠ j → D k = false → C D w → T k w w' → (Rs.getD j fun _ _ => True) U w → (Rs.getD j fun _ _ => True) U w'
  step : ∀ j o, hd[j]? = some o → ∀ D U w, D j = false → C D w → HypsU Rs U w (predsOf o) → wpList P ops (InvPost (T j) a0.defers w o.dst fun v w' => (Rs.getD j fun _ _ => True) (updU U j v) w' ∧ (F.contains j = true → FreshV v w w')) [o] (fillPuts hd U 0 a0) w
theorem wpInv_ok {F : List Nat} {C : (Nat → Bool) → World → Prop} {T : Nat → World → World → Prop} {hd : List Oper} {a0 : Act} {fin : (Nat → Value) → World → Prop}
    (hback : ∀ j o, hd[j]? = some o → ∀ p ∈ predsOf o, p < j) :
    ∀ (rest : List Oper) (i : Nat) (Rs : List RelU), Rs.length = i → hd.drop i = rest → i ≤ hd.length →
      (∀ j o, j < i → hd[j]? = some o → ∀ U w, (Rs.getD j fun _ _ => True) U w = (Rs.getD j fun _ _ => True) (maskU (j :: predsOf o) U) w) →
      (∀ k j D U w w', j < i → k ≠ j → D k = false → C D w → T k w w' → (Rs.getD j fun _ _ => True) U w → (Rs.getD j fun _ _ => True) U w') →
      (∀ j o, j < i → hd[j]? = some o → ∀ D U w, D j = false → C D w → HypsU Rs U w (predsOf o) → wpList P ops (InvPost (T j) a0.defers w o.dst fun v w' => (Rs.getD j fun _ _ => True) (updU U j v) w' ∧ (F.contains j = true → FreshV v w w')) [o] (fillPuts hd U 0 a0) w) →
      wpInv P ops F C T hd a0 fin i Rs rest → ∃ Rs', HeadOK P ops F C T hd a0 Rs' ∧ ∀ D U w, (∀ k, k < hd.length → D k = true) → C D w → AllU U w Rs' → ApartF F U → fin U w
  | [], i, Rs, hl, hdrop, hle, h1, h2, h3, h => by
    have hi : hd.length = i := by
      have := congrArg List.length hdrop
      simp at this
      omega
    refine ⟨Rs, ⟨by omega, fun j o hj => h1 j o (by rw [← hi]; exact (List.getElem?_eq_some_iff.1 hj).1) hj, fun k j D U w w' => ?_, fun j o hj => h3 j o (by rw [← hi]; exact (List.getElem?_eq_some_iff.1 hj).1) hj⟩, fun D U w hD => h D U w (fun k hk => hD k (by omega))⟩
    by_cases hj : j < i
    · exact h2 k j D U w w' hj
    · intro _ _ _ _ _
      rw [List.getD_eq_getElem?_getD, List.getElem?_eq_none (by omega)]
      trivial
  | o :: rest, i, Rs, hl, hdrop, hle, h1, h2, h3, h => by
    obtain ⟨r, ha, hb, hc, hn⟩ := h
    have hoi : hd[i]? = some o := by
      have := congrArg (fun l => l[0]?) hdrop
      simpa using this
    have hlt : i < hd.length := (List.getElem?_eq_some_iff.1 hoi).1
    have gl : ∀ j, j < i → (Rs ++ [r]).getD j (fun _ _ => True) = Rs.getD j (fun _ _ => True) := fun j hj => by
      rw [List.getD_eq_getElem?_getD, List.getElem?_append_left (by omega), ← List.getD_eq_getElem?_getD]
    have gi : (Rs ++ [r]).getD i (fun _ _ => True) = r := by
      rw [List.getD_eq_getElem?_getD, List.getElem?_append_right (by omega)]
      simp [hl]
    refine wpInv_ok hback rest (i + 1) (Rs ++ [r]) (by simp [hl]) ?_ (by omega) ?_ ?_ ?_ hn
    · rw [← List.drop_drop, hdrop]; rfl
    · intro j p hj hp U w
      by_cases e : j = i
      · subst e
        rw [gi]
        obtain rfl : p = o := Option.some.inj (hp.symm.trans hoi)
        exact ha U w
      · rw [gl j (by omega)]; exact h1 j p (by omega) hp U w
    · intro k j D U w w' hj
      by_cases e : j = i
      · subst e; rw [gi]; exact hb k D U w w'
      · rw [gl j (by omega)]; exact h2 k j D U w w' (by omega)
    · intro j p hj hp D U w hDj hC hH
      have hp' : ∀ q ∈ predsOf p, q < Rs.length := fun q hq => by have := hback j p hp q hq; omega
      have hH' := hypsU_append (predsOf p) hp' hH
      by_cases e : j = i
      · subst e
        rw [gi]
        obtain rfl : p = o := Option.some.inj (hp.symm.trans hoi)
        exact hc D U w hDj hC hH'
      · rw [gl j (by omega)]
        exact h3 j p (by omega) hp D U w hDj hC hH'
theorem wpAny_of_inv {F : List Nat} {C : (Nat → Bool) → World → Prop} {T : Nat → World → World → Prop} {n : Nat} {a0 : Act} {Rs : List RelU} {Q : Exit → Act → World → Prop} {l : List Oper} (hops : ops = l.toArray) (hB : invB ops n = true)
    (hCT : ∀ k D w w', D k = false → C D w → T k w w' → C (fun j => if j = k then true else D j) w') (hTs : ∀ k w w', T k w w' → w.heap.size ≤ w'.heap.size) (hFn : F.all (fun i => decide (i < n)) = true) (hOK : HeadOK P ops F C T (l.take n) a0 Rs)
    (hfin : ∀ D U w, (∀ k, k < n → D k = true) → C D w → AllU U w Rs → ApartF F U → wpList P ops Q (l.drop n) (fillPuts (l.take n) U 0 a0) w) :
    ∀ (f : Nat) (L : List Nat) (listed : Array Bool) (U : Nat → Value) (w : World), L.Nodup → L.length = f → (∀ j, j ∈ L ↔ j < n ∧ listed.getD j true = false) → HeadInv .any ops n listed → C (fun k => listed.getD k false) w →
      (∀ j, j < n → listed.getD j false = true → (Rs.getD j fun _ _ => True) U w) → (∀ j, F.contains j = true → listed.getD j false = true → ∃ p, blkOf (U j) = some p ∧ p < w.heap.size) →
      (∀ i j, F.contains i = true → F.contains j = true → i ≠ j → listed.getD i false = true → listed.getD j false = true → blkOf (U i) ≠ blkOf (U j)) → wpAny P .any ops Q (f + (ops.size - n)) listed (fillPuts (l.take n) U 0 a0) w := by
  simp only [invB, Bool.and_eq_true, decide_eq_true_eq] at hB
  obtain ⟨⟨⟨⟨⟨hn, hs⟩, hc⟩, hback⟩, hdist⟩, hseq⟩ := hB
  have hlen : (l.take n).length = n := by subst hops; simp at hn ⊢; omega
  have hdl : (l.drop n).length = ops.size - n := by subst hops; simp
  intro f
  induction f with
  | zero =>
    intro L listed U w hnd hL hmem inv hC hR hFb hFd
    have hL0 : L = [] := List.length_eq_zero_iff.1 hL
    subst hL0
    have hall : ∀ j, j < n → listed.getD j true = true := fun j hj => by
      cases h : listed.getD j true with
      | true => rfl
      | false => exact absurd ((hmem j).2 ⟨hj, h⟩) (by simp)
    have hlisted : listed = ((List.range ops.size).map fun i => decide (i < n)).toArray := by
      apply Array.ext
      · simp [inv.size]
      · intro i h1 h2
        simp only [List.getElem_toArray, List.getElem_map, List.getElem_range]
        by_cases hi : i < n
        · have := hall i hi
          simp [h1] at this
          simp [this, hi]
        · have := inv.tail i (by omega) (by rw [← inv.size]; exact h1)
          simp [h1] at this
          simp [this, hi]
    rw [Nat.zero_add, ← hdl]
    refine wpAny_of_seq (l.drop n) n listed _ w (fun j => by subst hops; simp [List.getElem?_drop]) (by rw [hdl, hlisted]; exact hseq) ?_
    have hallf : ∀ j, j < n → listed.getD j false = true := fun j hjn => by
      have := hall j hjn
      have hjs : j < listed.size := by rw [inv.size]; omega
      simp [hjs] at this ⊢
      exact this
    have hFn' : ∀ j, F.contains j = true → j < n := fun j hj => by
      have := List.all_eq_true.1 hFn j (List.contains_iff_mem.1 hj)
      simpa using this
    refine hfin _ U w hallf hC (allU_of Rs fun j hj => hR j (by rw [hOK.len, hlen] at hj; exact hj) (hallf j (by rw [hOK.len, hlen] at hj; exact hj))) (fun i j hi hj hij => hFd i j hi hj hij (hallf i (hFn' i hi)) (hallf j (hFn' j hj)))
  | succ f ih =>
    intro L listed U w hnd hL hmem inv hC hR hFb hFd
    have hne : L ≠ [] := fun h => by subst h; simp at hL
    obtain ⟨i0, hi0⟩ := List.exists_mem_of_ne_nil L hne
    obtain ⟨hi0n, hi0u⟩ := (hmem i0).1 hi0
    -- the least one that is not listed may come up
    have hready : Region.ready .any ops listed ≠ [] := by
      have key : ∀ (d i : Nat), i ≤ d → i < n → listed.getD i true = false → Region.ready .any ops listed ≠ [] := by
        intro d
        induction d with
        | zero =>
          intro i hid hin hiu
          have hi : i = 0 := by omega
          subst hi
          have hlt : 0 < ops.size := by omega
          intro h
          have : 0 ∈ Region.ready .any ops listed := mem_ready.2 ⟨hiu, ops[0], by simp [hlt], fun e he hb => absurd (backB_spec hback (i := 0) (by simp [hlt]) e he hb) (by omega)⟩
          rw [h] at this; cases this
        | succ d ihd =>
          intro i hid hin hiu
          have hlt : i < ops.size := by omega
          by_cases hex : ∃ e ∈ ops[i].after, Region.binds .any e = true ∧ listed.getD e.on false = false
          · obtain ⟨e, he, hb, hu⟩ := hex
            have hlt2 := backB_spec hback (i := i) (by simp [hlt]) e he hb
            exact ihd e.on (by omega) (by omega) (getD_in (by rw [inv.size]; omega) hu)
          · intro h
            have : i ∈ Region.ready .any ops listed := mem_ready.2 ⟨hiu, ops[i], by simp [hlt], fun e he hb => by
              cases h' : listed.getD e.on false with
              | true => rfl
              | false => exact absurd ⟨e, he, hb, h'⟩ hex⟩
            rw [h] at this; cases this
      exact key i0 i0 (Nat.le_refl _) hi0n hi0u
    rw [show f + 1 + (ops.size - n) = (f + (ops.size - n)) + 1 by omega]
    refine ⟨fun h => absurd h hready, fun i hi => ?_⟩
    obtain ⟨hiu, o, ho, hall⟩ := mem_ready.1 hi
    have hin : i < n := by
      rcases Nat.lt_or_ge i n with h | h
      · exact h
      · exact absurd hi (tail_waits hs hc hn inv _ i0 rfl hi0n hi0u i h)
    have hio : (l.take n)[i]? = some o := by
      subst hops
      rw [List.getElem?_take_of_lt hin]
      simpa using ho
    have hp : ∀ p ∈ predsOf o, p < n ∧ listed.getD p false = true := fun p hp => by
      obtain ⟨e, he, hb, rfl⟩ := of_mem_predsOf hp
      have := backB_spec hback ho e he hb
      exact ⟨by omega, hall e he hb⟩
    have hstep := hOK.step i o hio _ U w (getD_both hiu) hC (hypsU_of _ fun p hpp => hR p (hp p hpp).1 (hp p hpp).2)
    refine wpOp_of_list_inv ho (fillPuts_defers _ _ _ _) (fun v w' hT hG => ?_) hstep
    have hC' := hCT i _ w w' (getD_both hiu) hC hT
    have hDe : (fun j => if j = i then true else listed.getD j false) = fun k => (listed.setIfInBounds i true).getD k false := by
      funext j
      by_cases e : i = j
      · subst e
        have hsz : i < listed.size := by rw [inv.size]; omega
        simp [hsz]
      · rw [if_neg (fun h => e h.symm), getD_set_ne false e]
    rw [hDe] at hC'
    rw [← put_slot, fillPuts_put (l.take n) U 0 i o _ a0 (by subst hops; simpa using hdist) hio, Nat.zero_add]
    refine ih (L.erase i) (listed.setIfInBounds i true) _ w' (hnd.erase i) (by rw [List.length_erase_of_mem ((hmem i).2 ⟨hin, hiu⟩), hL]; rfl) (fun j => ?_) (inv.set hi hin) hC' (fun j hj hjl => ?_) ?_ ?_
    · rw [hnd.mem_erase_iff, hmem j]
      by_cases e : i = j
      · subst e
        constructor
        · rintro ⟨h, _⟩; exact absurd rfl h
        · rintro ⟨_, h⟩
          have hsz : i < listed.size := by rw [inv.size]; omega
          simp [hsz] at h
      · rw [getD_set_ne true e]
        constructor
        · rintro ⟨_, h⟩; exact h
        · intro h; exact ⟨fun h' => e h'.symm, h⟩
    · by_cases e : i = j
      · subst e; exact hG.1
      · rw [getD_set_ne false e] at hjl
        have hj1 := hOK.stay i j _ U w w' e (getD_both hiu) hC hT (hR j hj hjl)
        have hjs : j < ops.size := by omega
        obtain ⟨oj, hoj⟩ : ∃ oj, ops[j]? = some oj := ⟨ops[j], by simp [hjs]⟩
        have hjo : (l.take n)[j]? = some oj := by
          subst hops
          rw [List.getElem?_take_of_lt hj]
          simpa using hoj
        have hni : (j :: predsOf oj).contains i = false := by
          rw [Bool.eq_false_iff]
          intro h
          rcases List.mem_cons.1 (List.contains_iff_mem.1 h) with h | h
          · exact e h
          · obtain ⟨e', he', hb', rfl⟩ := of_mem_predsOf h
            have := inv.closed j oj hoj hjl e' he' hb'
            rw [getD_both hiu] at this
            cases this
        rw [hOK.loc j oj hjo, maskU_upd hni, ← hOK.loc j oj hjo]
        exact hj1
    · intro j hj hjl
      by_cases e : i = j
      · subst e
        obtain ⟨p, hp1, _, hp2⟩ := hG.2 hj
        exact ⟨p, by rw [updU_eq]; exact hp1, hp2⟩
      · rw [getD_set_ne false e] at hjl
        obtain ⟨p, hp1, hp2⟩ := hFb j hj hjl
        refine ⟨p, ?_, Nat.lt_of_lt_of_le hp2 (hTs _ _ _ hT)⟩
        have : updU U i (slotOf (fillPuts (l.take n) U 0 a0 |>.put o.dst v) o.dst) j = U j := by unfold updU; rw [if_neg (fun h => e h.symm)]
        rw [this]; exact hp1
    · intro j k hj hk hjk hjl hkl
      have old : ∀ q, i ≠ q → updU U i (slotOf (fillPuts (l.take n) U 0 a0 |>.put o.dst v) o.dst) q = U q := fun q e => by unfold updU; rw [if_neg (fun h => e h.symm)]
      by_cases e : i = j
      · subst e
        have e2 : i ≠ k := hjk
        rw [getD_set_ne false e2] at hkl
        obtain ⟨p, hp1, hp2, _⟩ := hG.2 hj
        obtain ⟨q, hq1, hq2⟩ := hFb k hk hkl
        rw [updU_eq, old k e2, hp1, hq1]
        intro h
        have := Option.some.inj h
        omega
      · rw [getD_set_ne false e] at hjl
        by_cases e2 : i = k
        · subst e2
          obtain ⟨p, hp1, hp2, _⟩ := hG.2 hk
          obtain ⟨q, hq1, hq2⟩ := hFb j hj hjl
          rw [updU_eq, old j e, hp1, hq1]
          intro h
          have := Option.some.inj h
          omega
        · rw [getD_set_ne false e2] at hkl
          rw [old j e, old k e2]
          exact hFd j k hj hk hjk hjl hkl
/-- An operation whose value hangs on the values ahead of it alone. -/
theorem wpInv_det {F : List Nat} {C : (Nat → Bool) → World → Prop} {T : Nat → World → World → Prop} {hd : List Oper} {a0 : Act} {fin : (Nat → Value) → World → Prop} {i : Nat} {Rs : List RelU} {o : Oper} {rest : List Oper} (hp : (predsOf o).contains i = false) (hF : F.contains i = false)
    (h : ∃ f : (Nat → Value) → Value, (∀ D U w, D i = false → C D w → HypsU Rs U w (predsOf o) → wpList P ops (InvPost (T i) a0.defers w o.dst fun v _ => v = f U) [o] (fillPuts hd U 0 a0) w) ∧
      (∀ U, f U = f (maskU (predsOf o) U)) ∧ wpInv P ops F C T hd a0 fin (i + 1) (Rs ++ [fun U _ => U i = f U]) rest) : wpInv P ops F C T hd a0 fin i Rs (o :: rest) := by
  obtain ⟨f, h1, h2, h3⟩ := h
  have e1 : ∀ U, maskU (predsOf o) (maskU (i :: predsOf o) U) = maskU (predsOf o) U := fun U => by
    funext j
    unfold maskU
    by_cases hj : (predsOf o).contains j = true
    · rw [if_pos hj, if_pos hj, if_pos (by simp at hj ⊢; exact .inr hj)]
    · rw [if_neg hj, if_neg hj]
  refine ⟨fun U _ => U i = f U, fun U w => ?_, fun _ _ _ _ _ _ _ _ _ h => h, fun D U w hDi hC hH => ?_, h3⟩
  · have e2 : maskU (i :: predsOf o) U i = U i := by unfold maskU; rw [if_pos (by simp)]
    have e3 : f (maskU (i :: predsOf o) U) = f U := by rw [h2, e1, ← h2]
    show (U i = f U) = (maskU (i :: predsOf o) U i = f (maskU (i :: predsOf o) U))
    rw [e2, e3]
  · refine wpList_post (T := T i) (fun a' w' hq => ?_) (h1 D U w hDi hC hH)
    refine ⟨hq.1, hq.2.1, hq.2.2.1, ?_, fun h => by rw [hF] at h; cases h⟩
    have hq4 := hq.2.2.2
    show updU U i (slotOf a' o.dst) i = f (updU U i (slotOf a' o.dst))
    rw [updU_eq, hq4, h2 (updU U i (f U)), maskU_upd hp, ← h2]
theorem wp_region_inv {id : Nat} {Q : Exit → Act → World → Prop} {a : Act} {w : World} {l : List Oper} (F : List Nat) (C : (Nat → Bool) → World → Prop) (T : Nat → World → World → Prop) (n : Nat) (hm : P.follows .mixedOrders = true) (hB : invB l.toArray n = true)
    (hFn : F.all (fun i => decide (i < n)) = true) (hC : C (fun _ => false) w.drew) (hCT : ∀ k D w w', D k = false → C D w → T k w w' → C (fun j => if j = k then true else D j) w') (hTs : ∀ k w w', T k w w' → w.heap.size ≤ w'.heap.size)
    (h : wpInv P l.toArray F C T (l.take n) a (fun U w => wpList P l.toArray Q (l.drop n) (fillPuts (l.take n) U 0 a) w) 0 [] (l.take n)) : (Code.region id l.toArray true).wp P Q a w := by
  refine wp_region_any hm ?_
  have hB' := hB
  simp only [invB, Bool.and_eq_true, decide_eq_true_eq] at hB'
  obtain ⟨⟨⟨⟨⟨hn, hs⟩, hc⟩, hback⟩, hdist⟩, hseq⟩ := hB'
  have hn' : n < l.length := by simpa using hn
  obtain ⟨Rs, hOK, hfin⟩ := wpInv_ok (P := P) (hd := l.take n) (fun j o hj p hp => by
    obtain ⟨e, he, hb, rfl⟩ := of_mem_predsOf hp
    have hjn : j < n := by have := (List.getElem?_eq_some_iff.1 hj).1; simp at this; omega
    rw [List.getElem?_take_of_lt hjn] at hj
    exact backB_spec hback (i := j) (by simpa using hj) e he hb) (l.take n) 0 [] rfl rfl (by omega) (fun j o hj => absurd hj (by omega)) (fun k j D U w w' hj => absurd hj (by omega)) (fun j o hj => absurd hj (by omega)) h
  obtain ⟨U, hU⟩ := fillPuts_start (l.take n) 0 a
  have := wpAny_of_inv (P := P) (Q := Q) rfl hB hCT hTs hFn hOK (fun D U w hD => hfin D U w (fun k hk => hD k (by simp at hk; omega))) n (List.range n) (Array.replicate l.toArray.size false) U { w with drawn := w.drawn + 1 } List.nodup_range (by simp) (fun j => by
      rw [List.mem_range]
      constructor
      · intro hj
        exact ⟨hj, getD_in (by simp; omega) (getD_replicate_false _ _)⟩
      · exact fun h => h.1)
    ⟨by simp, fun j oj _ hl => (by rw [getD_replicate_false] at hl; cases hl), fun t _ ht => getD_in (by simpa using ht) (getD_replicate_false _ _)⟩ (by
      have e : (fun k => (Array.replicate l.toArray.size false).getD k false) = fun _ => false := funext fun k => getD_replicate_false _ _
      rw [e]; exact hC) (fun j _ hl => by rw [getD_replicate_false] at hl; cases hl) (fun j _ hl => by rw [getD_replicate_false] at hl; cases hl) (fun i j _ _ _ hl => by rw [getD_replicate_false] at hl; cases hl)
  rw [hU] at this
  have e : n + (l.toArray.size - n) = l.toArray.size := by omega
  rwa [e] at this
end
end Go.RI
end

section
namespace Go
open Go.RowKit
set_option linter.unusedSimpArgs false
/-- A cell of a kind, within its bounds. -/
def Leaf.fitsW : Leaf → Value → Bool
  | .int k, .int k' n => decide (k = k') && (Lit.int k n).wf
  | .bool, .bool _ => true
  | _, _ => false
def fitAllW : List Leaf → List Value → Bool
  | [], [] => true
  | l :: ls, x :: xs => l.fitsW x && fitAllW ls xs
  | _, _ => false
theorem fitAllW_append : ∀ {ls ms : List Leaf} {xs ys : List Value}, fitAllW ls xs = true → fitAllW ms ys = true → fitAllW (ls ++ ms) (xs ++ ys) = true
  | [], ms, [], ys, _, h2 => by simpa using h2
  | l :: ls, ms, x :: xs, ys, h1, h2 => by
    simp only [fitAllW, Bool.and_eq_true] at h1
    simp only [List.cons_append, fitAllW, Bool.and_eq_true]
    exact ⟨h1.1, fitAllW_append h1.2 h2⟩
theorem fitAllW_length : ∀ {ls : List Leaf} {xs : List Value}, fitAllW ls xs = true → xs.length = ls.length
  | [], [], _ => rfl
  | _ :: ls, _ :: xs, h => by
    simp only [fitAllW, Bool.and_eq_true] at h
    simp [fitAllW_length h.2]
theorem fitAllW_at : ∀ {ls : List Leaf} {xs : List Value} (i : Nat) (k : IntKind), fitAllW ls xs = true → ls[i]? = some (.int k) → ∃ n, xs[i]? = some (.int k n) ∧ (Lit.int k n).wf = true
  | l :: ls, x :: xs, 0, k, h, hi => by
    obtain rfl : l = .int k := by simpa using hi
    simp only [fitAllW, Bool.and_eq_true] at h
    have h1 := h.1
    cases x with
    | int k' n =>
      simp only [Leaf.fitsW, Bool.and_eq_true, decide_eq_true_eq] at h1
      obtain ⟨rfl, hw⟩ := h1
      exact ⟨n, rfl, hw⟩
    | _ => exact absurd h1 (by simp [Leaf.fitsW])
  | l :: ls, x :: xs, i + 1, k, h, hi => by
    simp only [fitAllW, Bool.and_eq_true] at h
    simpa using fitAllW_at i k h.2 (by simpa using hi)
theorem fitAllW_int {k : IntKind} {ls : List Leaf} {xs : List Value} (h : fitAllW (.int k :: ls) xs = true) : ∃ n ys, xs = .int k n :: ys ∧ (Lit.int k n).wf = true ∧ fitAllW ls ys = true := by
  cases xs with
  | nil => simp [fitAllW] at h
  | cons x ys =>
    simp only [fitAllW, Bool.and_eq_true] at h
    obtain ⟨n, h1, h2⟩ := fitAllW_at (ls := [.int k]) (xs := [x]) 0 k (by simp [fitAllW, h.1]) rfl
    obtain rfl : x = .int k n := by simpa using h1
    exact ⟨n, ys, rfl, h2, h.2⟩
theorem fitAllW_nil {xs : List Value} (h : fitAllW [] xs = true) : xs = [] := by
  cases xs with
  | nil => rfl
  | cons x ys => simp [fitAllW] at h
theorem layout_cells {P : Program} {d : Nat} {t : TypeId} {ls : List Leaf} (h : layout P d t = some ls) : P.cellsOf t = ls.length := by
  obtain ⟨i, h1, h2⟩ := layout_info h
  simp [Program.cellsOf, h1, h2]
section
variable {H : Type} {enc : TypeId × Value → H} {P : Program} {w : World} {base : Nat} {spare : Nat → Bool} {held : Bool}
theorem fields_flat {d n : Nat} (IH : ∀ (t : TypeId) (ls : List Leaf) (cs : List Value) (x : DataW H × List MemPlace), layout P d t = some ls → DataW.trod enc P w base spare held n t cs = some x → fitAllW ls cs = true) (cs : List Value) :
    ∀ (fs : List Field) (ls : List (List Leaf)) (xs : List (DataW H × List MemPlace)) (o : Nat), fs.mapM (fun f => layout P d f.type) = some ls → offsOk fs ls o = true → xs.length = fs.length →
      (∀ (i : Nat) (f : Field), fs[i]? = some f → DataW.trod enc P w base spare held n f.type ((cs.drop f.offset).take (P.cellsOf f.type)) = xs[i]?) → fitAllW ls.flatten ((cs.drop o).take ls.flatten.length) = true
  | [], ls, xs, o, h, _, _, _ => by
    simp at h
    subst h
    simp [fitAllW]
  | f :: fs, ls, xs, o, h, ho, hl, hx => by
    rw [List.mapM_cons] at h
    obtain ⟨l, h1, h2⟩ := Option.bind_eq_some_iff.1 h
    obtain ⟨ls', h3, h4⟩ := Option.bind_eq_some_iff.1 h2
    obtain rfl : l :: ls' = ls := by simpa using h4
    simp only [offsOk, Bool.and_eq_true, beq_iff_eq] at ho
    obtain ⟨⟨_, rfl⟩, ho⟩ := ho
    match xs, hl with
    | x :: xs, hl =>
      have hx0 := hx 0 f rfl
      simp only [List.getElem?_cons_zero] at hx0
      rw [layout_cells h1] at hx0
      have a1 := IH _ _ _ _ h1 hx0
      have a2 := fields_flat IH cs fs ls' xs (f.offset + l.length) h3 ho (by simpa using hl) (fun i g hg => by simpa using hx (i + 1) g (by simpa using hg))
      have e : (cs.drop f.offset).take (l :: ls').flatten.length = (cs.drop f.offset).take l.length ++ (cs.drop (f.offset + l.length)).take ls'.flatten.length := by
        rw [List.flatten_cons, List.length_append, List.take_add, List.drop_drop]
      rw [e, List.flatten_cons]
      exact fitAllW_append a1 a2
theorem items_flat {l : List Leaf} (cs : List Value) : ∀ (n o : Nat), (∀ i, i < n → fitAllW l ((cs.drop (o + i * l.length)).take l.length) = true) → fitAllW (List.replicate n l).flatten ((cs.drop o).take (List.replicate n l).flatten.length) = true
  | 0, _, _ => by simp [fitAllW]
  | n + 1, o, h => by
    have a1 := h 0 (by omega)
    have a2 := items_flat cs n (o + l.length) (fun i hi => by
      have := h (i + 1) (by omega)
      rwa [show o + (i + 1) * l.length = o + l.length + i * l.length by rw [Nat.add_mul]; omega] at this)
    simp only [Nat.zero_mul, Nat.add_zero] at a1
    have e : (cs.drop o).take (List.replicate (n + 1) l).flatten.length = (cs.drop o).take l.length ++ (cs.drop (o + l.length)).take (List.replicate n l).flatten.length := by
      rw [List.replicate_succ, List.flatten_cons, List.length_append, List.take_add, List.drop_drop]
    rw [e, List.replicate_succ, List.flatten_cons]
    exact fitAllW_append a1 a2
theorem flat_of_trod : ∀ (d n : Nat) (t : TypeId) (ls : List Leaf) (cs : List Value) (x : DataW H × List MemPlace), layout P d t = some ls → DataW.trod enc P w base spare held n t cs = some x → fitAllW ls cs = true
  | 0, _, _, _, _, _, h, _ => by simp [layout] at h
  | d + 1, n, t, ls, cs, x, h, ht => by
    have hcells := layout_cells h
    unfold layout at h
    split at h
    · rename_i hu
      split at h
      · obtain rfl : [Leaf.bool] = ls := by simpa using h
        cases n with
        | zero => simp [DataW.trod] at ht
        | succ n =>
          unfold DataW.trod at ht
          rw [hu] at ht
          split at ht <;> simp_all [fitAllW, Leaf.fitsW]
      · cases h
    · rename_i k hu
      split at h
      · obtain rfl : [Leaf.int k] = ls := by simpa using h
        obtain ⟨m, rfl, _, hw⟩ := DataW.trod_int hu ht
        simp [fitAllW, Leaf.fitsW, hw]
      · cases h
    · rename_i m e hu
      obtain ⟨l, h1, h2⟩ := Option.bind_eq_some_iff.1 h
      split at h2
      · obtain rfl : (List.replicate m l).flatten = ls := by simpa using h2
        obtain ⟨xs, n', rfl, rfl, hl, hlen, hx⟩ := DataW.trod_array hu ht
        rw [hcells] at hl
        have := items_flat (l := l) cs m 0 (fun i hi => by
          have h3 := hx i hi
          rw [layout_cells h1, List.getElem?_eq_getElem (by omega)] at h3
          rw [Nat.zero_add]
          exact flat_of_trod d n' e l _ _ h1 h3)
        rw [List.drop_zero, ← hl, List.take_length] at this
        exact this
      · cases h2
    · rename_i fs hu
      obtain ⟨ls', h1, h2⟩ := Option.bind_eq_some_iff.1 h
      split at h2
      · rename_i hc
        obtain rfl : ls'.flatten = ls := by simpa using h2
        simp only [Bool.and_eq_true] at hc
        obtain ⟨xs, n', rfl, rfl, hl, hlen, hx⟩ := DataW.trod_struct hu ht
        rw [hcells] at hl
        have := fields_flat (fun t ls cs x => flat_of_trod d n' t ls cs x) cs fs.toList ls' xs 0 h1 hc.1.2 (by simpa using hlen) (fun i f hf => by
          rw [hx i f (by simpa using hf)])
        rw [List.drop_zero, ← hl, List.take_length] at this
        exact this
      · cases h2
    · cases h
/-- A flat struct or array that came in: its cells. -/
theorem open_flat {r : Reach} {b0 : Nat} {t : TypeId} {v : Value} {dd : DataW H} {p : List MemPlace} (d : Nat) (ls : List Leaf) (hl : layout P d t = some ls) (ha : isAggB P t = true)
    (hv : Value.okWide P w r b0 t v) (h : DataW.Trod enc P w base spare held t v dd p) : ∃ cs : List Value, v = .agg cs.toArray ∧ fitAllW ls cs = true := by
  obtain ⟨fuel, hf⟩ := h
  have hcs : ∃ cs, v = .agg cs := by
    unfold isAggB at ha
    unfold Value.okWide at hv
    split at ha <;> simp_all
    · obtain ⟨cs, h, _⟩ := hv; exact ⟨cs, h⟩
    · obtain ⟨cs, h, _⟩ := hv; exact ⟨cs, h⟩
  obtain ⟨cs, rfl⟩ := hcs
  refine ⟨cs.toList, by simp, ?_⟩
  exact flat_of_trod d fuel t ls _ _ hl (by simpa [Value.cells] using hf)
end
end Go
end

section
namespace Go.Proofs.YtcibajleknhklaaDoor
theorem wf_u8 {n : Int} (h : (Lit.int .u8 n).wf = true) : 0 ≤ n ∧ n ≤ 255 := by
  simpa [Lit.wf, IntKind.min, IntKind.max, IntKind.signed, IntKind.bits] using h
theorem wf_i32 {n : Int} (h : (Lit.int .i32 n).wf = true) : -2147483648 ≤ n ∧ n ≤ 2147483647 := by
  simpa [Lit.wf, IntKind.min, IntKind.max, IntKind.signed, IntKind.bits] using h
end Go.Proofs.YtcibajleknhklaaDoor
end

section
section
namespace Go
open Go.RowKit
/-- What follows is shown of every world of which this is known. -/
theorem cut_world {P : Program} {c : Code} {Q : Exit → Act → World → Prop} {a : Act} {w : World} (F : World → Prop) (hF : F w) (h : ∀ W, F W → c.wp P Q a W) : c.wp P Q a w := h w hF
end Go
end
section
namespace Go
open Go.RowKit
/-- A block whose cells are all known. -/
theorem block_facts {w : World} {p : Nat} {cs : Array Value} {T : TypeId} (h : w.heap[p]? = some (.cells cs T (0, 0))) : (∀ i, w.cell? ⟨p, i, none⟩ = cs[i]?) ∧ (∀ i, w.frozen? ⟨p, i, none⟩ = false) ∧ p < w.heap.size :=
  ⟨fun i => by simp [World.cell?, h], fun i => by simp [World.frozen?, h], (Array.getElem?_eq_some_iff.1 h).1⟩
end Go
end
section
namespace Go
open Go.RowKit
theorem setCell_own (w : World) (K i : Nat) (cs : Array Value) (T : TypeId) (f : Nat × Nat) (v : Value) (h : w.heap[K]? = some (.cells cs T f)) : (w.setCell ⟨K, i, none⟩ v).heap[K]? = some (.cells (cs.setIfInBounds i v) T f) := by
  show (w.heap.modify K _)[K]? = _
  rw [Array.getElem?_modify, if_pos rfl, h]
  rfl
theorem alloc_old (w : World) (o : Obj) (k : Nat) (h : k < w.heap.size) : (w.alloc o).heap[k]? = w.heap[k]? := by
  show (w.heap.push o)[k]? = _
  rw [Array.getElem?_push, if_neg (by omega)]
end Go
end
section
namespace Go
open Go.RowKit
theorem results_row_tmp {P : Program} {fn : Func} {p u : Tmp} {ty : TypeId} (h : fn.results = #[.cell p ty, .tmp u]) (tmps : Array Value) (w : World) (g : Nat) (t : TypeId) (cs : Array Value) (fr : Nat × Nat) (d : TypeDesc) (v : Value)
    (hp : tmps.getD p undef = .pointer (some ⟨g, 0, none⟩)) (hv : tmps.getD u undef = v) (hg : w.heap[g]? = some (.cells cs t fr))
    (hu : P.underlying ty = some d) (hd : (match d with | .struct _ | .array _ _ => true | _ => false) = true) (hi : (P.info? ty).map (·.size) = some cs.size) :
    (results fn tmps).run P w = .ok (.tuple #[.agg cs, v]) w := by
  rw [results_cell_tmp h, hp, hv]
  simp [asAddr, run_loadVar_row w g t ty cs fr d hg hu hd hi, Result.andThen]
end Go
end
section
namespace Go.Proofs.YtcibajleknhklaaDoor
open Go.RowKit Go.BigFrame Go.Proofs.YtcibajleknhklaaDoorW.PrintWords Go.Proofs.YtcibajleknhklaaDoorW.PrintLast Go.Proofs.YtcibajleknhklaaDoorW.PrintMore
set_option linter.unusedSimpArgs false
set_option linter.unusedVariables false
theorem own_form {w : World} {base : Nat} {e : TypeId} {size n : Nat} {v : Value} {xs : List Value} (h : w.ownsRow base e size v n xs) (hn : 0 < n) : ∃ g c, v = .slice (some ⟨g, 0, none⟩) n c ∧ base ≤ g ∧ g < w.heap.size := by
  rcases h.2 with ⟨_, h0⟩ | ⟨g, cap, cur, hv, hg, hh, _⟩
  · omega
  · exact ⟨g, cap, hv, hg, (Array.getElem?_eq_some_iff.1 hh).1⟩
theorem append_src {P : Program} {ops : Array Oper} {rest : List Oper} {o : Oper} {a : Act} {Q : Exit → Act → World → Prop} {w : World} (hgd : o.guard = none) (s x : Operand) (t : TypeId)
    (ho : o.op = .call { callee := .builtin .append, args := #[s, x], argTypes := #[t, t] })
    (base : Nat) (e e' : TypeId) (z : Value) (size bytes : Nat) (ht : P.underlying t = some (.slice e)) (hi : (P.info? e).map (fun i => (i.zero, i.size, i.bytes)) = some (some z, size, bytes))
    (hzs : z.cells.size = size) (hsz : 0 < size)
    (v : Value) (n : Nat) (xs : List Value) (hs : a.eval s = v) (hown : w.ownsRow base e size v n xs)
    (q : Nat) (news : List Value) (hx : a.eval x = .slice (some ⟨q, 0, none⟩) 1 1) (hq : w.heap[q]? = some (.cells news.toArray e' (0, 0))) (hl : news.length = size) (h1 : ∀ u ∈ news, u.oneCell' = true)
    (h63 : n + 1 ≤ maxLen) (hbytes : (n + 1) * bytes ≤ 140737488355328) (hbase : base ≤ w.heap.size)
    (h : ∀ v' w', w'.ownsRow base e size v' (n + 1) (xs ++ news) → w.grownBy w' v.ownBlock → (v'.ownBlock = v.ownBlock ∨ v'.ownBlock = some w.heap.size) → wpList P ops Q rest (a.put o.dst v') w') :
    wpList P ops Q (o :: rest) a w := by
  obtain ⟨i0, hi0, hz0, hz1, hz2⟩ := info_parts hi
  refine wpList_append_own_at (w := w) hgd s x t ho base e i0 z size bytes ht hi0 hz0 hz1 hz2 hzs hsz v n xs hs hown ⟨q, 0, none⟩ 1 1 news hx (by omega) ?_ h1 h63 hbytes hbase (fun v' w' h2 h3 _ h5 => h v' w' h2 h3 h5)
  intro j u hj
  have : (⟨q, 0, none⟩ : Addr).add j = ⟨q, j, none⟩ := by unfold Addr.add; split <;> simp_all
  rw [this]
  unfold World.cell?
  rw [hq]
  simpa using hj
theorem own_lt' {w : World} {base : Nat} {e : TypeId} {size n : Nat} {v : Value} {xs : List Value} (h : w.ownsRow base e size v n xs) (k : Nat) (hk : v.ownBlock = some k) : base ≤ k ∧ k < w.heap.size := h.lt k hk
end Go.Proofs.YtcibajleknhklaaDoor
end
section
namespace Go.Proofs.YtcibajleknhklaaDoor
open Go.RowKit Go.BigFrame Go.Proofs.YtcibajleknhklaaDoorW.PrintWords Go.Proofs.YtcibajleknhklaaDoorW.PrintLast Go.Proofs.YtcibajleknhklaaDoorW.PrintMore
set_option linter.unusedSimpArgs false
set_option linter.unusedVariables false
theorem w64_id {x : Int} (h1 : -4611686018427387904 ≤ x) (h2 : x ≤ 4611686018427387904) : wrap64 x = x := by unfold wrap64; omega
theorem wn_sub {a b : Nat} (h : b ≤ a) (ha : a ≤ 1000) : wrap64 ((a : Int) - (b : Int)) = ((a - b : Nat) : Int) := by
  rw [w64_id (by omega) (by omega)]; omega
theorem wn_add {a b : Nat} (ha : a ≤ 1000) (hb : b ≤ 1000) : wrap64 ((a : Int) + (b : Int)) = ((a + b : Nat) : Int) := by
  rw [w64_id (by omega) (by omega)]; omega
theorem wn_add1 {a : Nat} (ha : a ≤ 1000) : wrap64 ((a : Int) + 1) = ((a + 1 : Nat) : Int) := wn_add (b := 1) ha (by decide)
theorem wn_sub1 {a : Nat} (ha : a ≤ 1000) : wrap64 ((a : Int) - 1) = (a : Int) - 1 := w64_id (by omega) (by omega)
theorem wn_sub1i {a i : Nat} (h : i < a) (ha : a ≤ 1000) : wrap64 ((a : Int) - 1 - (i : Int)) = ((a - 1 - i : Nat) : Int) := by
  rw [w64_id (by omega) (by omega)]; omega
theorem wn_div2 {a : Nat} (ha : a ≤ 1000) : wrap64 ((a : Int) / 2) = ((a / 2 : Nat) : Int) := by
  rw [w64_id (by omega) (by omega)]; omega
theorem wn_div4 {a : Nat} (ha : a ≤ 1000) : wrap64 ((a : Int) / 4) = ((a / 4 : Nat) : Int) := by
  rw [w64_id (by omega) (by omega)]; omega
theorem wn_tdiv2 {a : Nat} (ha : a ≤ 1000) : wrap64 (Int.tdiv (a : Int) 2) = ((a / 2 : Nat) : Int) := by
  rw [Int.tdiv_eq_ediv_of_nonneg (by omega), wn_div2 ha]
theorem rd_nat (l : List Int) (j : Nat) : rd l (j : Int) = l.getD j 0 := by unfold rd; rw [Int.toNat_natCast]
end Go.Proofs.YtcibajleknhklaaDoor
end
section
namespace Go.Proofs.YtcibajleknhklaaDoor
open Go.RowKit Go.BigFrame Go.Proofs.YtcibajleknhklaaDoorW.PrintWords Go.Proofs.YtcibajleknhklaaDoorW.PrintLast Go.Proofs.YtcibajleknhklaaDoorW.PrintMore
set_option linter.unusedSimpArgs false
set_option linter.unusedVariables false
theorem wr_small {x : Int} (h1 : -4611686018427387904 ≤ x) (h2 : x ≤ 4611686018427387904) : IntKind.i64.wrap x = x := (i64_w x).trans (w64_id h1 h2)
end Go.Proofs.YtcibajleknhklaaDoor
end
section
namespace Go.Proofs.YtcibajleknhklaaDoor
open Go.RowKit Go.BigFrame Go.Proofs.YtcibajleknhklaaDoorW.PrintWords Go.Proofs.YtcibajleknhklaaDoorW.PrintLast Go.Proofs.YtcibajleknhklaaDoorW.PrintMore
set_option linter.unusedSimpArgs false
set_option linter.unusedVariables false
/-- N whole numbers, each of its own kind. -/
def ag (k : Nat → IntKind) (N : Nat) (st : Nat → Int) : Array Value := ((List.range N).map fun i => Value.int (k i) (st i)).toArray
def updI (st : Nat → Int) (i : Nat) (x : Int) : Nat → Int := fun j => if j = i then x else st j
theorem ag_size (k : Nat → IntKind) (N : Nat) (st : Nat → Int) : (ag k N st).size = N := by simp [ag]
theorem ag_get (k : Nat → IntKind) (N : Nat) (st : Nat → Int) (i : Nat) (h : i < N) : (ag k N st)[i]? = some (.int (k i) (st i)) := by
  simp [ag, h]
theorem ag_set (k : Nat → IntKind) (N : Nat) (st : Nat → Int) (i : Nat) (h : i < N) (x : Int) : (ag k N st).setIfInBounds i (.int (k i) x) = ag k N (updI st i x) := by
  apply Array.ext
  · simp [ag]
  · intro j h1 h2
    have hj : j < N := by simpa [ag] using h2
    rw [Array.getElem_setIfInBounds (by simpa [ag] using hj)]
    unfold updI
    by_cases e : i = j
    · subst e; simp [ag]
    · rw [if_neg e]; simp [ag, Ne.symm e]
theorem ag_ext (k : Nat → IntKind) (N : Nat) (s t : Nat → Int) (h : ∀ i, i < N → s i = t i) : ag k N s = ag k N t := by
  unfold ag
  congr 1
  apply List.map_congr_left
  intro i hi
  rw [h i (by simpa using hi)]
end Go.Proofs.YtcibajleknhklaaDoor
end
section
namespace Go.Proofs.YtcibajleknhklaaDoor
open Go.RowKit Go.BigFrame Go.Proofs.YtcibajleknhklaaDoorW.PrintWords Go.Proofs.YtcibajleknhklaaDoorW.PrintLast Go.Proofs.YtcibajleknhklaaDoorW.PrintMore
set_option linter.unusedSimpArgs false
set_option linter.unusedVariables false
theorem cells_all {w : World} {g N : Nat} {e : TypeId} {old cs : Array Value} (h : w.heap[g]? = some (.cells old e (0, 0))) (h1 : old.size = N) (h2 : cs.size = N) : (w.setCells g 0 cs.toList).heap[g]? = some (.cells cs e (0, 0)) := by
  obtain ⟨cur, q1, q2, q3⟩ := setCells_row cs.toList 0 w old h (by rw [Array.length_toList]; omega)
  have : cur = cs := by
    apply Array.ext'
    rw [q3, List.take_zero, List.nil_append, List.drop_of_length_le (by rw [Array.length_toList, Array.length_toList]; omega), List.append_nil]
  rw [q1, this]
theorem ag_one (k : Nat → IntKind) (N : Nat) (st : Nat → Int) : (ag k N st).all (·.oneCell') = true := by
  rw [Array.all_eq_true]
  intro i hi
  simp [ag, Value.oneCell']
end Go.Proofs.YtcibajleknhklaaDoor
end
section
namespace Go.Proofs.YtcibajleknhklaaDoor
open Go.RowKit Go.BigFrame Go.Proofs.YtcibajleknhklaaDoorW.PrintWords Go.Proofs.YtcibajleknhklaaDoorW.PrintLast Go.Proofs.YtcibajleknhklaaDoorW.PrintMore
set_option linter.unusedSimpArgs false
set_option linter.unusedVariables false
/-- The kinds of a state's numbers, and of the document's. -/
def kS (i : Nat) : IntKind := if i < 10 then .i64 else if i < 140 then .i32 else if i = 140 then .u32 else .i64
def kP (i : Nat) : IntKind := if i = 140 then .u32 else .i64
/-- A store into a great value. -/
theorem ag_store {w : World} {b N : Nat} {e : TypeId} {k : Nat → IntKind} {f : Nat → Int} (h : w.heap[b]? = some (.cells (ag k N f) e (0, 0))) (i : Nat) (hi : i < N) (x : Int) :
    (w.setCell ⟨b, i, none⟩ (.int (k i) x)).heap[b]? = some (.cells (ag k N (updI f i x)) e (0, 0)) := by
  rw [setCell_own _ _ _ _ _ _ _ h, ag_set k N f i hi x]
theorem ag_cell {w : World} {b N : Nat} {e : TypeId} {k : Nat → IntKind} {f : Nat → Int} (h : w.heap[b]? = some (.cells (ag k N f) e (0, 0))) (i : Nat) (hi : i < N) :
    w.cell? ⟨b, i, none⟩ = some (.int (k i) (f i)) := by rw [(block_facts h).1 i, ag_get _ _ _ _ hi]
theorem build_to {P : Program} {ops : Array Oper} {rest : List Oper} {o : Oper} {a : Act} {w : World} {Q : Exit → Act → World → Prop} (hg : o.guard = none) (t : TypeId) (parts : Array (Nat × Operand)) (ho : o.op = .build t parts) (cells : Array Value)
    (hb : P.built t (parts.map fun (i, x) => (i, a.eval x)).toList = some cells)
    (h : wpList P ops Q rest (a.put o.dst (.agg cells)) w) : wpList P ops Q (o :: rest) a w :=
  wpList_build hg t parts ho (by rw [hb]; rfl) (by rw [hb]; exact h)
theorem there_row {w : World} {b : Nat} {e : TypeId} {old : Array Value} (h : w.heap[b]? = some (.cells old e (0, 0))) (n : Nat) (hn : n ≤ old.size) : w.there b 0 n := by
  intro j hj
  rw [Nat.zero_add]
  refine ⟨?_, (block_facts h).2.1 j⟩
  rw [(block_facts h).1 j, Array.getElem?_eq_getElem (by omega)]
  rfl
theorem alloc_two (w : World) (o p : Obj) : ((w.alloc o).alloc p).heap[w.heap.size]? = some o :=
  ((below_alloc (Below.refl _ _) _ : Below (w.alloc o).heap.size _ ((w.alloc o).alloc p)).block _ (by simp)).trans (alloc_at _ _)
theorem alloc_three (w : World) (o p q : Obj) : (((w.alloc o).alloc p).alloc q).heap[w.heap.size]? = some o :=
  ((below_alloc (Below.refl _ _) _ : Below ((w.alloc o).alloc p).heap.size _ (((w.alloc o).alloc p).alloc q)).block _ (by simp; omega)).trans (alloc_two _ _ _)
theorem alloc_third (w : World) (o p q : Obj) : (((w.alloc o).alloc p).alloc q).heap[w.heap.size + 1 + 1]? = some q := by
  have := alloc_at ((w.alloc o).alloc p) q
  rw [show ((w.alloc o).alloc p).heap.size = w.heap.size + 1 + 1 from by simp] at this
  exact this
theorem alloc_second (w : World) (o p q : Obj) : (((w.alloc o).alloc p).alloc q).heap[w.heap.size + 1]? = some p := by
  have := alloc_two (w.alloc o) p q
  rw [show (w.alloc o).heap.size = w.heap.size + 1 from by simp] at this
  exact this
end Go.Proofs.YtcibajleknhklaaDoor
end
section
namespace Go.Proofs.YtcibajleknhklaaDoor
open Go.RowKit Go.BigFrame Go.Proofs.YtcibajleknhklaaDoorW.PrintWords Go.Proofs.YtcibajleknhklaaDoorW.PrintLast Go.Proofs.YtcibajleknhklaaDoorW.PrintMore
set_option linter.unusedSimpArgs false
set_option linter.unusedVariables false
/-- One block has been written, no other one. -/
structure Only (B : Nat) (w w' : World) : Prop where
  os : w'.os = w.os
  tape : w'.tape = w.tape
  output : w'.output = w.output
  size : w'.heap.size = w.heap.size
  block : ∀ k, k ≠ B → w'.heap[k]? = w.heap[k]?
theorem Only.below {B C : Nat} {w0 w w' : World} (h : Only B w w') (hb : Below C w0 w) (hB : C ≤ B) : Below C w0 w' :=
  hb.trans ⟨h.os, h.tape, h.output, Nat.le_of_eq h.size.symm, fun k hk => h.block k (by omega)⟩
theorem Only.setCell {w w' : World} {p : Addr} (v : Value) (h : Only p.block w w') : Only p.block w (w'.setCell p v) :=
  ⟨h.os, h.tape, h.output, by rw [← h.size]; simp, fun k hk => (Below.heap_setCell w' p v k hk).trans (h.block k hk)⟩
theorem Only.refl (B : Nat) (w : World) : Only B w w := ⟨rfl, rfl, rfl, rfl, fun _ _ => rfl⟩
theorem Only.trans {B : Nat} {a b c : World} (h : Only B a b) (k : Only B b c) : Only B a c :=
  ⟨k.os.trans h.os, k.tape.trans h.tape, k.output.trans h.output, k.size.trans h.size, fun i hi => (k.block i hi).trans (h.block i hi)⟩
theorem only_setCell (w : World) (p : Addr) (v : Value) : Only p.block w (w.setCell p v) := (Only.refl _ w).setCell v
theorem only_setCells (w : World) (g o : Nat) (vs : List Value) : Only g w (w.setCells g o vs) := by
  obtain ⟨h1, h2, h3, h4⟩ := setCells_same g vs o w
  exact ⟨h1, h2, h3, h4, fun k hk => setCells_far vs o k hk⟩
theorem only_setRow (w : World) (g : Nat) (cs : Array Value) : Only g w (w.setRow g cs) :=
  ⟨rfl, rfl, rfl, by simp [World.setRow], fun k hk => setRow_other w g k cs hk⟩
theorem R_only {α : Type} {d : Kd α} {e base B : Nat} {w w1 : World} {v : Value} {xs : List α} (h : d.R e w base (fun _ => True) v xs) (ho : Only B w w1) (hB : B < base) : d.R e w1 base (fun _ => True) v xs :=
  Kd.R_mono (Kd.R_move (Kd.R_bound h) (fun k hk => ho.block k (by have := hk.2.1; omega))) (fun _ _ => trivial)
abbrev Bx (B : Nat) (T : TypeId) (k : Nat → IntKind) (N : Nat) (f : Nat → Int) (w : World) : Prop := w.heap[B]? = some (.cells (ag k N f) T (0, 0))
theorem Bx.keep {B T k N f} {w w' : World} (h : Bx B T k N f w) (hb : Below w.heap.size w w') : Bx B T k N f w' := (hb.block B (block_facts h).2.2).trans h
theorem Bx.only {B C T k N f} {w w' : World} (h : Bx B T k N f w) (ho : Only C w w') (hne : B ≠ C) : Bx B T k N f w' := (ho.block B hne).trans h
/-- Places from o on hold other numbers. -/
def overF (f : Nat → Int) (o : Nat) (xs : List Int) : Nat → Int := fun j => if o ≤ j ∧ j < o + xs.length then xs.getD (j - o) 0 else f j
theorem ag_toList (k : Nat → IntKind) (N : Nat) (f : Nat → Int) : (ag k N f).toList = (List.range N).map fun i => Value.int (k i) (f i) := by simp [ag]
theorem splice_ag (k : Nat → IntKind) (κ : IntKind) (N : Nat) (f : Nat → Int) (o : Nat) (xs : List Int) (hN : o + xs.length ≤ N) (hk : ∀ j, o ≤ j → j < o + xs.length → k j = κ) :
    (ag k N f).toList.take o ++ (xs.map (Value.int κ) ++ (ag k N f).toList.drop (o + (xs.map (Value.int κ)).length)) = (ag k N (overF f o xs)).toList := by
  rw [List.length_map]
  apply List.ext_getElem?
  intro j
  rw [ag_toList, ag_toList]
  by_cases h1 : j < o
  · rw [List.getElem?_append_left (by simp; omega), List.getElem?_take, if_pos h1]
    simp only [List.getElem?_map, List.getElem?_range (show j < N by omega), Option.map_some]
    rw [show overF f o xs j = f j from by unfold overF; rw [if_neg (by omega)]]
  · rw [List.getElem?_append_right (by simp; omega)]
    have hl : ((List.map (fun i => Value.int (k i) (f i)) (List.range N)).take o).length = o := by simp; omega
    rw [hl]
    by_cases h2 : j < o + xs.length
    · rw [List.getElem?_append_left (by simp; omega)]
      simp only [List.getElem?_map, List.getElem?_range (show j < N by omega), Option.map_some]
      rw [show overF f o xs j = xs.getD (j - o) 0 from by unfold overF; rw [if_pos (by omega)], hk j (by omega) h2, List.getD_eq_getElem?_getD, List.getElem?_eq_getElem (show j - o < xs.length by omega)]
      rfl
    · rw [List.getElem?_append_right (by simp; omega), List.getElem?_drop, List.length_map, show o + xs.length + (j - o - xs.length) = j from by omega]
      by_cases h3 : j < N
      · simp only [List.getElem?_map, List.getElem?_range h3, Option.map_some]
        rw [show overF f o xs j = f j from by unfold overF; rw [if_neg (by omega)]]
      · rw [List.getElem?_eq_none (by simp; omega), List.getElem?_eq_none (by simp; omega)]
theorem bx_setCells {B T k N f} {w : World} (h : Bx B T k N f w) (κ : IntKind) (o : Nat) (xs : List Int) (hN : o + xs.length ≤ N) (hk : ∀ j, o ≤ j → j < o + xs.length → k j = κ) :
    Bx B T k N (overF f o xs) (w.setCells B o (xs.map (Value.int κ))) := by
  obtain ⟨cur, h1, h2, h3⟩ := setCells_row (xs.map (Value.int κ)) o w _ h (by rw [ag_size, List.length_map]; exact hN)
  rw [List.append_assoc, splice_ag k κ N f o xs hN hk] at h3
  rw [Bx, h1, Array.ext' h3]
/-- A part of a block, as a row that is read. -/
theorem bx_reads {B T k N f} {w : World} (h : Bx B T k N f w) (κ : IntKind) (o n : Nat) (hN : o + n ≤ N) (hm : N ≤ 1000000) (hk : ∀ j, o ≤ j → j < o + n → k j = κ) :
    Kd.C (Kd.int κ) w (some ⟨B, o, none⟩) ((List.range n).map fun i => f (o + i)).length ((List.range n).map fun i => f (o + i)) := by
  refine ⟨rfl, by simp; omega, fun hn => ⟨_, rfl, fun j p hj => ⟨[.int κ p], rfl, rfl, fun i u hu => ?_⟩⟩⟩
  have hj' : j < n := by
    have := (List.getElem?_eq_some_iff.1 hj).1
    simpa using this
  simp only [List.getElem?_map, List.getElem?_range hj', Option.map_some, Option.some.injEq] at hj
  subst hj
  cases i with
  | zero =>
    obtain rfl : Value.int κ (f (o + j)) = u := by simpa using hu
    have e : (⟨B, o, none⟩ : Addr).add (j * (Kd.int κ).sz + 0) = ⟨B, o + j, none⟩ := by
      have : j * (Kd.int κ).sz + 0 = j := by show j * 1 + 0 = j; omega
      rw [this]; unfold Addr.add; split <;> simp_all
    rw [e, ag_cell h (o + j) (by omega), hk (o + j) (by omega) (by omega)]
  | succ i => simp at hu
section
variable {P : Program} {ops : Array Oper} {rest : List Oper} {o : Oper} {a : Act} {Q : Exit → Act → World → Prop}
/-- copy(block[off:off+dLen], row): a row of the call's own. -/
theorem copy_bx {w : World} (hgd : o.guard = none) (d s : Operand) (dT sT : TypeId) (ho : o.op = .call { callee := .builtin .copy, args := #[d, s], argTypes := #[dT, sT] })
    (elem : TypeId) (hu : P.underlying dT = some (.slice elem)) (hsz : (P.info? elem).map (·.size) = some 1) (B off dLen dCap sCap : Nat) (sp : Option Addr) (κ : IntKind) (xs : List Int)
    (hd : a.eval d = .slice (some ⟨B, off, none⟩) dLen dCap) (hs : a.eval s = .slice sp xs.length sCap) (hx : Kd.C (Kd.int κ) w sp xs.length xs) (hpos : 0 < xs.length) (hle : xs.length ≤ dLen)
    {T : TypeId} {k : Nat → IntKind} {N : Nat} {f : Nat → Int} (hB : Bx B T k N f w) (hN : off + xs.length ≤ N) (hk : ∀ j, off ≤ j → j < off + xs.length → k j = κ)
    (h : ∀ w', Only B w w' → Bx B T k N (overF f off xs) w' → wpList P ops Q rest (a.put o.dst (goInt xs.length)) w') : wpList P ops Q (o :: rest) a w := by
  obtain ⟨ad, rfl, hc⟩ := hx.2.2 hpos
  refine wpList_copy_own hgd d s dT sT ho elem hu hsz B off dLen dCap ad xs.length sCap hd hs (ag k N f) T hB (xs.map (Value.int κ)) (by rw [List.length_map]; exact (Nat.min_eq_left hle).symm) ?_ (by rw [List.length_map, ag_size]; exact hN) (fun v hv => by obtain ⟨x, _, rfl⟩ := List.mem_map.1 hv; rfl) ?_
  · intro j v hj
    obtain ⟨x, hx1, rfl⟩ := Option.map_eq_some_iff.1 ((List.getElem?_map ..).symm.trans hj)
    obtain ⟨c, h1, h2, h3⟩ := hc j x hx1
    have h2' : c = [Value.int κ x] := h2
    subst h2'
    have := h3 0 _ rfl
    have e : j * (Kd.int κ).sz + 0 = j := by show j * 1 + 0 = j; omega
    rw [e] at this
    exact this
  · rw [List.length_map]
    refine h _ (only_setRow _ _ _) ?_
    have e := splice_ag k κ N f off xs hN hk
    rw [List.length_map] at e
    rw [e]
    exact setRow_heap w B _ _ T _ hB
end
end Go.Proofs.YtcibajleknhklaaDoor
namespace Go
open Go.RowKit
/-- One step of a region: what stands is kept, but a block of type T0, made since V, may have come to hold X. -/
structure TT (V : World) (T0 : TypeId) (X : Array Value) (W W' : World) : Prop where
  below : Below V.heap.size W W'
  other : ∀ (k : Nat) (cs : Array Value) (T : TypeId) (f : Nat × Nat), T ≠ T0 → W.heap[k]? = some (.cells cs T f) → W'.heap[k]? = some (.cells cs T f)
  own : ∀ (k : Nat) (cs : Array Value) (f : Nat × Nat), W.heap[k]? = some (.cells cs T0 f) → W'.heap[k]? = some (.cells cs T0 f) ∨ W'.heap[k]? = some (.cells X T0 (0, 0))
theorem TT.of_below {V W W' : World} {T0 : TypeId} {X : Array Value} (hs : V.heap.size ≤ W.heap.size) (h : Below W.heap.size W W') : TT V T0 X W W' :=
  ⟨h.mono hs, fun k _ _ _ _ hk => (h.block k (Array.getElem?_eq_some_iff.1 hk).1).trans hk, fun k _ _ hk => .inl ((h.block k (Array.getElem?_eq_some_iff.1 hk).1).trans hk)⟩
end Go
end
section
namespace Go.Proofs.YtcibajleknhklaaDoor
open Go.RowKit Go.BigFrame Go.Proofs.YtcibajleknhklaaDoorW.PrintWords Go.Proofs.YtcibajleknhklaaDoorW.PrintLast Go.Proofs.YtcibajleknhklaaDoorW.PrintMore
set_option linter.unusedSimpArgs false
set_option linter.unusedVariables false
theorem List.take_succ_eq_append_getElem' (X : List Int) (i : Nat) (h : i < X.length) : X.take (i + 1) = X.take i ++ [X.getD i 0] := by
  rw [List.take_succ_eq_append_getElem h, List.getD_eq_getElem?_getD, List.getElem?_eq_getElem h]; rfl
theorem R_lowT {α : Type} {d : Kd α} {e base base' : Nat} {w : World} {v : Value} {xs : List α} (h : d.R e w base (fun _ => True) v xs) (hb : base' ≤ base) : d.R e w base' (fun _ => True) v xs := Kd.R_lower h hb
def nOf (s : Int) : Nat := if s = 0 then 8 else if s = 1 then 16 else 32
def nbOf (s : Int) : Nat := (3 + s).toNat
end Go.Proofs.YtcibajleknhklaaDoor
end
section
namespace Go.Proofs.YtcibajleknhklaaDoor
open Go.RowKit Go.BigFrame Go.Proofs.YtcibajleknhklaaDoorW.PrintWords Go.Proofs.YtcibajleknhklaaDoorW.PrintLast Go.Proofs.YtcibajleknhklaaDoorW.PrintMore
set_option linter.unusedSimpArgs false
set_option linter.unusedVariables false
theorem alloc_secondOf (w : World) (o p : Obj) : ((w.alloc o).alloc p).heap[w.heap.size + 1]? = some p := by
  have := alloc_at (w.alloc o) p
  rw [show (w.alloc o).heap.size = w.heap.size + 1 from by simp] at this
  exact this
theorem bx_rangeK {B T k N f} {w : World} (h : Bx B T k N f w) (κ : IntKind) (o n : Nat) (hN : o + n ≤ N) (hk : ∀ j, o ≤ j → j < o + n → k j = κ) : w.rangeAt B o (ag (fun _ => κ) n (fun i => f (o + i))).toList := by
  intro j v hj
  rw [ag_toList] at hj
  have hj' : j < n := by
    have := (List.getElem?_eq_some_iff.1 hj).1
    simpa using this
  simp only [List.getElem?_map, List.getElem?_range hj', Option.map_some, Option.some.injEq] at hj
  subst hj
  rw [ag_cell h (o + j) (by omega), hk (o + j) (by omega) (by omega)]
theorem R_C {α : Type} {d : Kd α} {e base m c : Nat} {ok : Nat → Prop} {w : World} {A : Option Addr} {xs : List α} (h : d.R e w base ok (.slice A m c) xs) : d.C w A xs.length xs ∧ xs.length ≤ c := by
  obtain ⟨A', c', h1, h2, h3⟩ := Kd.R_reads h
  injection h1 with h4 h5 h6
  subst h4 h6
  exact ⟨h3, h2⟩
end Go.Proofs.YtcibajleknhklaaDoor
end
section
namespace Go.Proofs.YtcibajleknhklaaDoor
open Go.RowKit Go.BigFrame Go.Proofs.YtcibajleknhklaaDoorW.PrintWords Go.Proofs.YtcibajleknhklaaDoorW.PrintLast Go.Proofs.YtcibajleknhklaaDoorW.PrintMore
set_option linter.unusedSimpArgs false
set_option linter.unusedVariables false
/-- A flat value that came in, as a function of the place. -/
theorem ag_of_fit (k : Nat → IntKind) (N : Nat) (cs : List Value) (h : fitAllW ((List.range N).map fun i => Leaf.int (k i)) cs = true) : ∃ st : Nat → Int, cs.toArray = ag k N st ∧ ∀ i, i < N → (Lit.int (k i) (st i)).wf = true := by
  have hl : cs.length = N := by have := fitAllW_length h; simpa using this
  have hat : ∀ i, i < N → ∃ n, cs[i]? = some (.int (k i) n) ∧ (Lit.int (k i) n).wf = true := fun i hi => fitAllW_at i (k i) h (by simp [hi])
  refine ⟨fun i => match cs[i]? with | some (.int _ n) => n | _ => 0, ?_, ?_⟩
  · apply Array.ext
    · simp [ag_size, hl]
    · intro i h1 h2
      have hi : i < N := by simpa [ag_size] using h2
      obtain ⟨n, hn, _⟩ := hat i hi
      have e1 : cs.toArray[i]? = some (.int (k i) n) := by simpa using hn
      have e2 := ag_get k N (fun i => match cs[i]? with | some (.int _ n) => n | _ => 0) i hi
      simp only [hn] at e2
      rw [Array.getElem?_eq_getElem h1] at e1
      rw [Array.getElem?_eq_getElem h2] at e2
      rw [Option.some.inj e1, Option.some.inj e2]
  · intro i hi
    obtain ⟨n, hn, hw⟩ := hat i hi
    simp only [hn]
    exact hw
end Go.Proofs.YtcibajleknhklaaDoor
end
section
namespace Go
open Go.RowKit
theorem load_row_g {P : Program} {ops : Array Oper} {rest : List Oper} {o : Oper} {a : Act} {w : World} {Q : Exit → Act → World → Prop} (hw : Region.wanted o (yielded ops a.tmps) = true) (ty : TypeId) (x : Operand) (ho : o.op = .load ty x)
    (g : Nat) (hx : a.eval x = .pointer (some ⟨g, 0, none⟩)) (t : TypeId) (cs : Array Value) (fr : Nat × Nat) (d : TypeDesc) (hg : w.heap[g]? = some (.cells cs t fr))
    (hu : P.underlying ty = some d) (hd : (match d with | .struct _ | .array _ _ => true | _ => false) = true) (hi : (P.info? ty).map (·.size) = some cs.size)
    (h : wpList P ops Q rest (a.put o.dst (.agg cs)) w) : wpList P ops Q (o :: rest) a w := by
  unfold wpList
  rw [if_pos hw]
  exact .inl (wp_load_row ty x ho g hx t cs fr d hg hu hd hi h)
theorem load_mid_g {P : Program} {ops : Array Oper} {rest : List Oper} {o : Oper} {a : Act} {w : World} {Q : Exit → Act → World → Prop} (hw : Region.wanted o (yielded ops a.tmps) = true) (ty : TypeId) (x : Operand) (ho : o.op = .load ty x)
    (b f : Nat) (hx : a.eval x = .pointer (some ⟨b, f, none⟩)) (cs : List Value) (d : TypeDesc) (hc : w.rangeAt b f cs)
    (hu : P.underlying ty = some d) (hd : d.isRow = true) (hi : (P.info? ty).map (·.size) = some cs.length)
    (h : wpList P ops Q rest (a.put o.dst (.agg cs.toArray)) w) : wpList P ops Q (o :: rest) a w := by
  unfold wpList
  rw [if_pos hw]
  exact .inl (wp_load_mid ty x ho b f hx cs d hc hu hd hi h)
end Go
end
end

section
namespace Go.Proofs.YtcibajleknhklaaDoor
open Go.RowKit Go.Proofs.YtcibajleknhklaaDoorW.PrintWords Go.Proofs.YtcibajleknhklaaDoorW.PrintLast Go.Proofs.YtcibajleknhklaaDoorW.PrintMore
open PStateTells RStateTells
set_option linter.unusedSimpArgs false
set_option linter.unusedVariables false
theorem window_ok : ∀ i : Fin 32, ((lap_Window.f 40 32 (i.val : Int)).any fun v => decide (0 ≤ v) && decide (v ≤ 32768)) = true ∧ (i.val < 16 → ((lap_Window.f 40 16 (i.val : Int)).any fun v => decide (0 ≤ v) && decide (v ≤ 32768)) = true) ∧ (i.val < 8 → ((lap_Window.f 40 8 (i.val : Int)).any fun v => decide (0 ≤ v) && decide (v ≤ 32768)) = true) := by decide +kernel
theorem window_mono (n i v : Int) : ∀ d, lap_Window.f 40 n i = some v → lap_Window.f (40 + d) n i = some v
  | 0, h => h
  | d + 1, h => lap_Window.mono n i (40 + d) v (window_mono n i v d h)
theorem window_total (n : Nat) (hn : n = 8 ∨ n = 16 ∨ n = 32) (k : Nat) (hk : 40 ≤ k) (i : Nat) (hi : i < n) : ∃ v, lap_Window.f k (n : Int) (i : Int) = some v := by
  have key : ((lap_Window.f 40 (n : Int) (i : Int)).any fun v => decide (0 ≤ v) && decide (v ≤ 32768)) = true := by
    rcases hn with rfl | rfl | rfl
    · exact (window_ok ⟨i, by omega⟩).2.2 hi
    · exact (window_ok ⟨i, by omega⟩).2.1 hi
    · exact (window_ok ⟨i, by omega⟩).1
  cases h : lap_Window.f 40 (n : Int) (i : Int) with
  | none => rw [h] at key; simp at key
  | some v =>
    obtain ⟨d, rfl⟩ : ∃ d, k = 40 + d := ⟨k - 40, by omega⟩
    exact ⟨v, window_mono _ _ v d h⟩
theorem weighed_total (a w : Int) : ∃ r, lap_weighed.f a w = some r := by
  unfold lap_weighed.f fix_Round.f
  have e1 : mn 15 62 = 15 := by decide
  have e2 : (0 : Int) ≤ wrap64 (15 - 1) := by decide +kernel
  rw [e1, if_neg (by decide), if_pos (by decide), if_pos e2]
  exact ⟨_, rfl⟩
theorem sat24_total (x : Int) : ∃ r, fix_Sat.f x 24 = some r ∧ -8388608 ≤ r ∧ r ≤ 8388607 := by
  have e1 : Go.bits .xor .i64 (-1) (wrap64 ((wrap64 (2 ^ ((mn (mx 24 1) 63) - 1).toNat)) - 1)) = -8388608 := by decide +kernel
  have e2 : wrap64 ((wrap64 (2 ^ ((mn (mx 24 1) 63) - 1).toNat)) - 1) = 8388607 := by decide +kernel
  refine ⟨mn (mx x (-8388608)) 8388607, ?_, ?_, ?_⟩
  · unfold fix_Sat.f; rw [e1, e2]
  · unfold mn mx; (repeat' split) <;> omega
  · unfold mn mx; (repeat' split) <;> omega
theorem sat28_total (x : Int) : ∃ r, fix_Sat.f x 28 = some r ∧ -134217728 ≤ r ∧ r ≤ 134217727 := by
  have e1 : Go.bits .xor .i64 (-1) (wrap64 ((wrap64 (2 ^ ((mn (mx 28 1) 63) - 1).toNat)) - 1)) = -134217728 := by decide +kernel
  have e2 : wrap64 ((wrap64 (2 ^ ((mn (mx 28 1) 63) - 1).toNat)) - 1) = 134217727 := by decide +kernel
  refine ⟨mn (mx x (-134217728)) 134217727, ?_, ?_, ?_⟩
  · unfold fix_Sat.f; rw [e1, e2]
  · unfold mn mx; (repeat' split) <;> omega
  · unfold mn mx; (repeat' split) <;> omega
theorem sat32_total (x : Int) : ∃ r, fix_Sat32.f x = some r ∧ -2147483648 ≤ r ∧ r ≤ 2147483647 := by
  refine ⟨mn (mx x (-2147483648)) 2147483647, rfl, ?_, ?_⟩
  · unfold mn mx; (repeat' split) <;> omega
  · unfold mn mx; (repeat' split) <;> omega
theorem long_total (y : List Int) (n h : Nat) (hy : y.length = n) (hn : n = h + h) (hh : 4 ≤ h ∧ h ≤ 16) (e1 : wrap64 ((n : Int) / 2) = (h : Int)) (e2 : wrap64 (Int.tdiv (wrap64 (3 * (n : Int))) 2) = ((h + h + h : Nat) : Int)) :
    ∀ (d k i : Nat) (x4 : List Int), i + d = n + n → d < k → x4.length = i → ∃ u, lap_long.l0 k y (n : Int) x4 ((n + n : Nat) : Int) (i : Int) = some u ∧ u.length = n + n
  | 0, k, i, x4, hi, hk, hx => by
    obtain ⟨k, rfl⟩ : ∃ m, k = m + 1 := ⟨k - 1, by omega⟩
    exact ⟨x4, by rw [lap_long.l0, if_neg (by omega)], by omega⟩
  | d + 1, k, i, x4, hi, hk, hx => by
    obtain ⟨k, rfl⟩ : ∃ m, k = m + 1 := ⟨k - 1, by omega⟩
    have E1 := Lib.hid e1
    have E2 := Lib.hid e2
    clear e1 e2
    have e3 := Lib.hid (show wrap64 ((i : Int) + 1) = ((i + 1 : Nat) : Int) from w64_id (by omega) (by omega))
    have e4 := Lib.hid (show wrap64 (((h + h + h : Nat) : Int) - 1) = ((h + h + h : Nat) : Int) - 1 from w64_id (by omega) (by omega))
    rw [lap_long.l0, if_pos (by omega), E1.out, E2.out, e3.out, e4.out]
    by_cases a : (i : Int) < (h : Int)
    · have e5 := Lib.hid (show wrap64 ((h : Int) + (i : Int)) = (h : Int) + i from w64_id (by omega) (by omega))
      rw [if_pos a, e5.out, if_pos (by omega), if_pos (by omega), if_pos (by omega)]
      exact long_total y n h hy hn hh E1.out E2.out d k (i + 1) _ (by omega) (by omega) (by simp; omega)
    · rw [if_neg a]
      by_cases b : (i : Int) < ((h + h + h : Nat) : Int)
      · have e5 := Lib.hid (show wrap64 (((h + h + h : Nat) : Int) - 1 - (i : Int)) = ((h + h + h : Nat) : Int) - 1 - i from w64_id (by omega) (by omega))
        rw [if_pos b, e5.out, if_pos (by omega), if_pos (by omega), if_pos (by omega)]
        exact long_total y n h hy hn hh E1.out E2.out d k (i + 1) _ (by omega) (by omega) (by simp; omega)
      · have e5 := Lib.hid (show wrap64 ((i : Int) - ((h + h + h : Nat) : Int)) = (i : Int) - ((h + h + h : Nat) : Int) from w64_id (by omega) (by omega))
        rw [if_neg b, e5.out, if_pos (by omega), if_pos (by omega), if_pos (by omega)]
        exact long_total y n h hy hn hh E1.out E2.out d k (i + 1) _ (by omega) (by omega) (by simp; omega)
def okL (B C : Int) (l : List Int) : Prop := ∀ v ∈ l, B ≤ v ∧ v ≤ C
theorem lapl_total (t u : List Int) (n : Nat) (hn : n = 8 ∨ n = 16 ∨ n = 32) (ht : t.length = n) (hu : u.length = n + n) :
    ∀ (d k i : Nat) (x8 x9 : List Int), i + d = n → d + 41 < k → x8.length = i → x9.length = i → okL (-8388608) 8388607 x8 → okL (-2147483648) 2147483647 x9 →
      ∃ o b, lap_Plain.l0 k t (n : Int) u x8 x9 (n : Int) (i : Int) = some (o, b) ∧ o.length = n ∧ b.length = n ∧ okL (-8388608) 8388607 o ∧ okL (-2147483648) 2147483647 b
  | 0, k, i, x8, x9, hi, hk, h8, h9, o8, o9 => by
    obtain ⟨k, rfl⟩ : ∃ m, k = m + 1 := ⟨k - 1, by omega⟩
    exact ⟨x8, x9, by rw [lap_Plain.l0, if_neg (by omega)], by omega, by omega, o8, o9⟩
  | d + 1, k, i, x8, x9, hi, hk, h8, h9, o8, o9 => by
    obtain ⟨k, rfl⟩ : ∃ m, k = m + 1 := ⟨k - 1, by omega⟩
    have hn32 : n ≤ 32 := by omega
    have e3 := Lib.hid (show wrap64 ((i : Int) + 1) = ((i + 1 : Nat) : Int) from w64_id (by omega) (by omega))
    have e4 := Lib.hid (show wrap64 ((n : Int) + (i : Int)) = (n : Int) + i from w64_id (by omega) (by omega))
    have e5 := Lib.hid (show wrap64 ((n : Int) - 1) = (n : Int) - 1 from w64_id (by omega) (by omega))
    have e6 := Lib.hid (show wrap64 ((n : Int) - 1 - (i : Int)) = ((n - 1 - i : Nat) : Int) from by rw [w64_id (by omega) (by omega)]; omega)
    obtain ⟨v1, q1⟩ := window_total n hn k (by omega) i (by omega)
    obtain ⟨v2, q2⟩ := window_total n hn k (by omega) (n - 1 - i) (by omega)
    obtain ⟨r1, q3⟩ := weighed_total (rd u (i : Int)) v1
    obtain ⟨s1, q4, b1, b2⟩ := sat24_total (wrap64 ((wrap64 (rd t (i : Int))) + r1))
    obtain ⟨r2, q5⟩ := weighed_total (rd u ((n : Int) + i)) v2
    obtain ⟨s2, q6, b3, b4⟩ := sat32_total r2
    have hw : wrap32 s1 = s1 := by unfold wrap32; omega
    rw [lap_Plain.l0, if_pos (by omega), if_pos (by omega), if_pos (by omega), if_pos (by omega), q1, Option.bind_some, q3, Option.bind_some, q4, Option.bind_some, if_pos (by omega), e4.out, if_pos (by omega), if_pos (by omega), e5.out, e6.out, q2, Option.bind_some, q5, Option.bind_some, q6, Option.bind_some, if_pos (by omega), e3.out, hw]
    refine lapl_total t u n hn ht hu d k (i + 1) _ _ (by omega) (by omega) (by simp; omega) (by simp; omega) ?_ ?_
    · intro v hv
      rcases List.mem_append.1 hv with h | h
      · exact o8 v h
      · obtain rfl := List.mem_singleton.1 h; exact ⟨b1, b2⟩
    · intro v hv
      rcases List.mem_append.1 hv with h | h
      · exact o9 v h
      · obtain rfl := List.mem_singleton.1 h; exact ⟨b3, b4⟩
theorem lap_total (y t : List Int) (n : Nat) (hn : n = 8 ∨ n = 16 ∨ n = 32) (hy : y.length = n) (ht : t.length = n) :
    ∃ o b, lap_Plain.f 200 y t = some (o, b) ∧ o.length = n ∧ b.length = n ∧ okL (-8388608) 8388607 o ∧ okL (-2147483648) 2147483647 b := by
  have e0 : lap_there.f (n : Int) = some true := by rcases hn with rfl | rfl | rfl <;> decide +kernel
  have en : wrap64 (2 * (n : Int)) = ((n + n : Nat) : Int) := by rw [w64_id (by omega) (by omega)]; omega
  obtain ⟨u, q, hu⟩ : ∃ u, lap_long.f 199 y = some u ∧ u.length = n + n := by
    have h1 : ∃ h : Nat, n = h + h ∧ (4 ≤ h ∧ h ≤ 16) ∧ wrap64 ((n : Int) / 2) = (h : Int) ∧ wrap64 (Int.tdiv (wrap64 (3 * (n : Int))) 2) = ((h + h + h : Nat) : Int) := by
      rcases hn with rfl | rfl | rfl
      · exact ⟨4, rfl, by decide, by decide +kernel, by decide +kernel⟩
      · exact ⟨8, rfl, by decide, by decide +kernel, by decide +kernel⟩
      · exact ⟨16, rfl, by decide, by decide +kernel, by decide +kernel⟩
    obtain ⟨h, a1, a2, a3, a4⟩ := h1
    unfold lap_long.f
    rw [hy, en]
    exact long_total y n h hy a1 a2 a3 a4 (n + n) 199 0 [] (by omega) (by omega) rfl
  obtain ⟨o, b, q2, r⟩ := lapl_total t u n hn ht hu n 199 0 [] [] (by omega) (by omega) rfl rfl (fun v hv => by cases hv) (fun v hv => by cases hv)
  refine ⟨o, b, ?_, r⟩
  unfold lap_Plain.f
  rw [hy, ht, e0, Option.bind_some, if_pos rfl]
  rw [lap_Plain.j0, if_neg (by simp), q, Option.bind_some]
  exact q2
theorem next_total (a m : Int) : ∃ r, emph_next.f a m = some r ∧ -134217728 ≤ r ∧ r ≤ 134217727 := by
  have e1 : mn 15 62 = 15 := by decide
  have e2 : (0 : Int) ≤ wrap64 (15 - 1) := by decide +kernel
  unfold emph_next.f fix_Round.f
  rw [e1, if_neg (by decide), if_pos (by decide), if_pos e2, Option.bind_some]
  obtain ⟨s, q, b1, b2⟩ := sat28_total (wrap64 ((wrap64 a) + wrap64 ((wrap64 (27853 * (wrap64 m))) / 2 ^ (15 : Int).toNat + Go.bits .and .i64 (shr .i64 (wrap64 (27853 * (wrap64 m))) (wrap64 (15 - 1))) 1)))
  rw [q, Option.bind_some]
  have hw : wrap32 s = s := by unfold wrap32; omega
  exact ⟨s, by rw [hw], b1, b2⟩
theorem sat16_total (x : Int) : ∃ r, fix_Sat16.f x = some r ∧ -32768 ≤ r ∧ r ≤ 32767 := by
  refine ⟨mn (mx x (-32768)) 32767, rfl, ?_, ?_⟩
  · unfold mn mx; (repeat' split) <;> omega
  · unfold mn mx; (repeat' split) <;> omega
theorem emphl_total (x : List Int) (hl : x.length ≤ 100000) : ∀ (d k i : Nat) (m : Int) (x6 : List Int), i + d = x.length → d < k → x6.length = i → okL (-32768) 32767 x6 → (-134217728 ≤ m ∧ m ≤ 134217727) →
    ∃ s m', emph_Plain.l0 k m x6 x (x.length : Int) (i : Int) = some (s, m') ∧ s.length = x.length ∧ okL (-32768) 32767 s ∧ (-134217728 ≤ m' ∧ m' ≤ 134217727)
  | 0, k, i, m, x6, hi, hk, h6, o6, hm => by
    obtain ⟨k, rfl⟩ : ∃ m, k = m + 1 := ⟨k - 1, by omega⟩
    exact ⟨x6, m, by rw [emph_Plain.l0, if_neg (by omega)], by omega, o6, hm⟩
  | d + 1, k, i, m, x6, hi, hk, h6, o6, hm => by
    obtain ⟨k, rfl⟩ : ∃ m, k = m + 1 := ⟨k - 1, by omega⟩
    have e3 := Lib.hid (show wrap64 ((i : Int) + 1) = ((i + 1 : Nat) : Int) from w64_id (by omega) (by omega))
    obtain ⟨r, q1, b1⟩ := next_total (rd x (i : Int)) m
    obtain ⟨s, q2, b2, b3⟩ := sat16_total (wrap64 r)
    rw [emph_Plain.l0, if_pos (by omega), if_pos (by omega), if_pos (by omega), q1, Option.bind_some, q2, Option.bind_some, if_pos (by omega), e3.out]
    refine emphl_total x hl d k (i + 1) r _ (by omega) (by omega) (by simp; omega) ?_ b1
    intro v hv
    rcases List.mem_append.1 hv with h | h
    · exact o6 v h
    · obtain rfl := List.mem_singleton.1 h; exact ⟨b2, b3⟩
/-- The sound of numbers, behind any memory. -/
theorem emph_total (x : List Int) (hl : x.length ≤ 100000) (h0 : 0 < x.length) (m : Int) : ∃ s m', emph_Plain.f 100002 x m = some (s, m') ∧ s.length = x.length ∧ okL (-32768) 32767 s ∧ (-134217728 ≤ m' ∧ m' ≤ 134217727) := by
  unfold emph_Plain.f
  have e3 := Lib.hid (show wrap64 ((0 : Int) + 1) = ((1 : Nat) : Int) from w64_id (by omega) (by omega))
  obtain ⟨r, q1, b1⟩ := next_total (rd x 0) m
  obtain ⟨s, q2, b2, b3⟩ := sat16_total (wrap64 r)
  obtain ⟨s2, m2, q3, a⟩ := emphl_total x hl (x.length - 1) 100001 1 r ([] ++ [s]) (by omega) (by omega) rfl (fun v hv => by
    obtain rfl := List.mem_singleton.1 (by simpa using hv)
    exact ⟨b2, b3⟩) b1
  refine ⟨s2, m2, ?_, a⟩
  rw [emph_Plain.l0, if_pos (by omega), if_pos (by omega), if_pos (by omega), q1, Option.bind_some, q2, Option.bind_some, if_pos (by simp), e3.out]
  exact q3
end Go.Proofs.YtcibajleknhklaaDoor
end

section
namespace Go.Proofs.YtcibajleknhklaaDoor
open Go.RowKit Go.Proofs.YtcibajleknhklaaDoorW.PrintWords Go.Proofs.YtcibajleknhklaaDoorW.PrintMore
open PStateTells RStateTells
/-- A number within the history's bounds. -/
def hd (x : Int) : Int := max (min x 16777216) (-16777216)
theorem hd_bd (x : Int) : -16777216 ≤ hd x ∧ hd x ≤ 16777216 := by unfold hd; omega
theorem held_eq (x : Int) : conceal_held.f x = some (hd x) := by
  unfold conceal_held.f mn mx hd
  congr 1
  split <;> split <;> omega
theorem mul_bd {a b : Int} (ha : -16777216 ≤ a ∧ a ≤ 16777216) (hb : -16777216 ≤ b ∧ b ≤ 16777216) : -281474976710656 ≤ a * b ∧ a * b ≤ 281474976710656 := by
  have h1 : a.natAbs ≤ 16777216 := by omega
  have h2 : b.natAbs ≤ 16777216 := by omega
  have h3 : (a * b).natAbs ≤ 16777216 * 16777216 := by rw [Int.natAbs_mul]; exact Nat.mul_le_mul h1 h2
  omega
/-- How much a history is like itself p numbers ahead. -/
def dot (l : List Int) (p : Nat) : Nat → Int
  | 0 => 0
  | i + 1 => dot l p i + hd (l.getD (l.length - 1 - i) 0) * hd (l.getD (l.length - 1 - i - p) 0)
theorem dot_bd (l : List Int) (p : Nat) : ∀ i : Nat, -(281474976710656 * (i : Int)) ≤ dot l p i ∧ dot l p i ≤ 281474976710656 * (i : Int)
  | 0 => by simp [dot]
  | i + 1 => by
    have h := dot_bd l p i
    have h2 := mul_bd (hd_bd (l.getD (l.length - 1 - i) 0)) (hd_bd (l.getD (l.length - 1 - i - p) 0))
    simp only [dot]
    push_cast
    omega
theorem dot_small (l : List Int) (p i : Nat) (hi : i ≤ 32) : -9007199254740992 ≤ dot l p i ∧ dot l p i ≤ 9007199254740992 := by
  have h := dot_bd l p i
  omega
theorem dot_step (l : List Int) (p i : Nat) (hi : i ≤ 16) : wrap64 (dot l p i + wrap64 (hd (l.getD (l.length - 1 - i) 0) * hd (l.getD (l.length - 1 - i - p) 0))) = dot l p (i + 1) := by
  have hb := mul_bd (hd_bd (l.getD (l.length - 1 - i) 0)) (hd_bd (l.getD (l.length - 1 - i - p) 0))
  have h1 := dot_small l p i (by omega)
  simp only [dot]
  generalize hd (l.getD (l.length - 1 - i) 0) * hd (l.getD (l.length - 1 - i - p) 0) = q at hb ⊢
  generalize dot l p i = z at h1 ⊢
  rw [w64_id (x := q) (by omega) (by omega), w64_id (by omega) (by omega)]
theorem alike_l0 (l : List Int) (p m : Nat) (hn : l.length ≤ 32) (hm : 2 * m ≤ l.length) (hp : p ≤ m) : ∀ (d k i : Nat), i + d = m → d < k →
    conceal_alike.l0 k l p (dot l p i) ((l.length : Int) - 1) m i = some (dot l p m)
  | 0, k, i, hi, hk => by
    obtain ⟨k, rfl⟩ : ∃ q, k = q + 1 := ⟨k - 1, by omega⟩
    obtain rfl : i = m := by omega
    simp only [conceal_alike.l0]
    rw [if_neg (by omega)]
  | d + 1, k, i, hi, hk => by
    obtain ⟨k, rfl⟩ : ∃ q, k = q + 1 := ⟨k - 1, by omega⟩
    have him : i < m := by omega
    have e1 : Aside0 (wrap64 ((l.length : Int) - 1 - (i : Int)) = ((l.length - 1 - i : Nat) : Int)) := ⟨wn_sub1i (by omega) (by omega)⟩
    have e2 : Aside0 (wrap64 (((l.length - 1 - i : Nat) : Int) - (p : Int)) = ((l.length - 1 - i - p : Nat) : Int)) := ⟨wn_sub (by omega) (by omega)⟩
    have e3 : Aside0 (wrap64 ((i : Int) + 1) = ((i + 1 : Nat) : Int)) := ⟨wn_add1 (by omega)⟩
    have e4 : Aside0 (wrap64 (dot l p i + wrap64 (hd (l.getD (l.length - 1 - i) 0) * hd (l.getD (l.length - 1 - i - p) 0))) = dot l p (i + 1)) := ⟨dot_step l p i (by omega)⟩
    simp only [conceal_alike.l0]
    rw [if_pos (by omega), e1.out, if_pos (by omega), if_pos (by omega), rd_nat, held_eq]
    simp only [Option.bind_some]
    rw [e2.out, if_pos (by omega), if_pos (by omega), rd_nat, held_eq]
    simp only [Option.bind_some]
    rw [e3.out, e4.out]
    exact alike_l0 l p m hn hm hp d k (i + 1) (by omega) (by omega)
theorem alike_f (l : List Int) (p k : Nat) (hn : l.length ≤ 32) (hp : p ≤ l.length / 2) (hk : 20 ≤ k) : conceal_alike.f k l p = some (dot l p (l.length / 2)) := by
  unfold conceal_alike.f
  by_cases h0 : l.length = 0
  · obtain ⟨k, rfl⟩ : ∃ q, k = q + 1 := ⟨k - 1, by omega⟩
    rw [h0]
    simp only [conceal_alike.l0]
    rw [if_neg (by unfold wrap64; omega)]
    rfl
  · have e1 : wrap64 ((l.length : Int) - 1) = (l.length : Int) - 1 := wn_sub1 (by omega)
    have e2 : Aside0 (wrap64 ((l.length : Int) / 2) = ((l.length / 2 : Nat) : Int)) := ⟨wn_div2 (by omega)⟩
    rw [e1, e2.out]
    exact alike_l0 l p (l.length / 2) hn (by omega) hp (l.length / 2) k 0 (by omega) (by omega)
/-- The lag, and how much the history is like itself there, of the first ones. -/
def lagTo (l : List Int) : Nat → Nat × Int
  | 0 => (l.length / 4, dot l (l.length / 4) (l.length / 2))
  | c + 1 => if (lagTo l c).2 < dot l (l.length / 4 + c + 1) (l.length / 2) then (l.length / 4 + c + 1, dot l (l.length / 4 + c + 1) (l.length / 2)) else lagTo l c
def lagF (l : List Int) : Nat := (lagTo l (l.length / 2 - l.length / 4)).1
theorem lagTo_bd (l : List Int) : ∀ c, l.length / 4 ≤ (lagTo l c).1 ∧ (lagTo l c).1 ≤ l.length / 4 + c
  | 0 => by simp [lagTo]
  | c + 1 => by
    have h := lagTo_bd l c
    simp only [lagTo]
    split
    · simp only; omega
    · omega
def Len (n : Nat) : Prop := n = 8 ∨ n = 16 ∨ n = 32
theorem lag_bd (l : List Int) (hn : Len l.length) : 2 ≤ lagF l ∧ lagF l ≤ l.length / 2 := by
  have h := lagTo_bd l (l.length / 2 - l.length / 4)
  unfold lagF
  unfold Len at hn
  omega
theorem lag_l0 (l : List Int) (hn : Len l.length) : ∀ (d k c : Nat), c + d = l.length / 2 - l.length / 4 → d + 25 < k →
    conceal_Lag.l0 k l (l.length : Int) (lagTo l c).1 (lagTo l c).2 ((l.length / 4 + c + 1 : Nat) : Int) = some ((lagF l : Nat) : Int)
  | 0, k, c, hc, hk => by
    obtain ⟨k, rfl⟩ : ∃ q, k = q + 1 := ⟨k - 1, by omega⟩
    unfold Len at hn
    have e1 : Aside0 (wrap64 (Int.tdiv (l.length : Int) 2) = ((l.length / 2 : Nat) : Int)) := ⟨wn_tdiv2 (by omega)⟩
    simp only [conceal_Lag.l0]
    rw [e1.out, if_neg (by omega)]
    unfold lagF
    rw [← hc, Nat.add_zero]
  | d + 1, k, c, hc, hk => by
    obtain ⟨k, rfl⟩ : ∃ q, k = q + 1 := ⟨k - 1, by omega⟩
    have hn' := hn
    unfold Len at hn'
    have e1 : Aside0 (wrap64 (Int.tdiv (l.length : Int) 2) = ((l.length / 2 : Nat) : Int)) := ⟨wn_tdiv2 (by omega)⟩
    have e2 : Aside0 (wrap64 (((l.length / 4 + c + 1 : Nat) : Int) + 1) = ((l.length / 4 + (c + 1) + 1 : Nat) : Int)) := ⟨wn_add1 (by omega)⟩
    have ih := lag_l0 l hn d k (c + 1) (by omega) (by omega)
    simp only [conceal_Lag.l0]
    rw [e1.out, if_pos (by omega), alike_f l _ k (by omega) (by omega) (by omega)]
    simp only [Option.bind_some]
    rw [e2.out]
    by_cases h : (lagTo l c).2 < dot l (l.length / 4 + c + 1) (l.length / 2)
    · rw [if_pos h]
      simp only [lagTo, if_pos h] at ih
      exact ih
    · rw [if_neg h]
      simp only [lagTo, if_neg h] at ih
      exact ih
theorem there_len (n : Nat) (h : Len n) : conceal_there.f n = some true := by
  unfold Len at h
  rcases h with rfl | rfl | rfl <;> decide +kernel
theorem lag_f (l : List Int) (hn : Len l.length) (k : Nat) (hk : 60 ≤ k) : conceal_Lag.f k l = some ((lagF l : Nat) : Int) := by
  have hn' := hn
  unfold Len at hn'
  unfold conceal_Lag.f
  rw [there_len _ hn]
  simp only [Option.bind_some, if_true]
  have e1 : Aside0 (wrap64 ((l.length : Int) / 4) = ((l.length / 4 : Nat) : Int)) := ⟨wn_div4 (by omega)⟩
  have e2 : Aside0 (wrap64 (((l.length / 4 : Nat) : Int) + 1) = ((l.length / 4 + 0 + 1 : Nat) : Int)) := ⟨wn_add1 (by omega)⟩
  rw [e1.out, alike_f l _ k (by omega) (by omega) (by omega)]
  simp only [Option.bind_some]
  rw [e2.out]
  exact lag_l0 l hn (l.length / 2 - l.length / 4) k 0 (by omega) (by omega)
/-- How much of a loss is heard. -/
def fadeF (n : Int) : Int := if n = 1 then 29491 else if n = 2 then 22937 else if n = 3 then 13107 else if n = 4 then 4915 else 0
theorem fadeF_bd (n : Int) : 0 ≤ fadeF n ∧ fadeF n ≤ 29491 := by unfold fadeF; split <;> (try split) <;> (try split) <;> (try split) <;> omega
/-- One number that is made up. -/
def madeAt (l : List Int) (loss : Int) (i : Nat) : Int := (hd (l.getD (l.length - lagF l + i % lagF l) 0) * fadeF loss).tdiv 32768
def madeF (l : List Int) (loss : Int) : List Int := (List.range l.length).map (madeAt l loss)
theorem tdiv_bd {a b : Int} (ha : -16777216 ≤ a ∧ a ≤ 16777216) (hb : 0 ≤ b ∧ b ≤ 29491) : (-494780232499 - 1 ≤ a * b ∧ a * b ≤ 494780232499) ∧ -16777216 ≤ (a * b).tdiv 32768 ∧ (a * b).tdiv 32768 ≤ 16777216 := by
  have h1 : a.natAbs ≤ 16777216 := by omega
  have h2 : b.natAbs ≤ 29491 := by omega
  have h3 : (a * b).natAbs ≤ 16777216 * 29491 := by rw [Int.natAbs_mul]; exact Nat.mul_le_mul h1 h2
  have h4 : ((a * b).tdiv 32768).natAbs = (a * b).natAbs / 32768 := by rw [Int.natAbs_tdiv]; rfl
  omega
theorem madeAt_bd (l : List Int) (loss : Int) (i : Nat) : -16777216 ≤ madeAt l loss i ∧ madeAt l loss i ≤ 16777216 := (tdiv_bd (hd_bd _) (fadeF_bd loss)).2
theorem part_eq (x : Int) (n : Int) : conceal_part.f x (fadeF n) = some ((hd x * fadeF n).tdiv 32768) := by
  unfold conceal_part.f
  rw [held_eq]
  simp only [Option.bind_some]
  have hf := fadeF_bd n
  obtain ⟨h1, h2⟩ := tdiv_bd (hd_bd x) hf
  rw [w64_id (x := fadeF n) (by omega) (by omega), w64_id (x := hd x * fadeF n) (by omega) (by omega)]
  clear h1
  generalize (hd x * fadeF n).tdiv 32768 = q at h2 ⊢
  congr 1
  unfold wrap32 wrap64
  omega
end Go.Proofs.YtcibajleknhklaaDoor
end

section
namespace Go.Proofs.YtcibajleknhklaaDoor
open Go.RowKit
/-- A channel's history. -/
def histL (st : Nat → Int) (n c : Nat) : List Int := (List.range n).map fun i => st (74 + c * 32 + i)
theorem histL_len (st : Nat → Int) (n c : Nat) : (histL st n c).length = n := by simp [histL]
theorem histL_at (st : Nat → Int) (n c i : Nat) (h : i < n) : (histL st n c).getD i 0 = st (74 + c * 32 + i) := by simp [histL, h]
/-- One channel of it. -/
def loseC (n nb : Nat) (loss : Int) (c : Nat) (st : Nat → Int) : Nat → Int := fun j =>
  if 10 + c * 32 ≤ j ∧ j < 10 + c * 32 + n then 0
  else if 74 + c * 32 ≤ j ∧ j < 74 + c * 32 + n then madeAt (histL st n c) loss (j - (74 + c * 32))
  else if j = 138 + c then 0
  else if c * 5 ≤ j ∧ j < c * 5 + nb then max (st j) 2 - 2
  else st j
def lossOf (st : Nat → Int) : Int := min (max (st 141) 0) 1000 + 1
/-- So many channels of it, and the sound of each. -/
def loseTo (n nb : Nat) (loss : Int) (st : Nat → Int) : Nat → (Nat → Int)
  | 0 => st
  | c + 1 => loseC n nb loss c (loseTo n nb loss st c)
def sat16 (x : Int) : Int := max (min x 32767) (-32768)
def soundC (st : Nat → Int) (n c : Nat) (loss : Int) : List Int := (madeF (histL st n c) loss).map sat16
theorem madeF_len (l : List Int) (loss : Int) : (madeF l loss).length = l.length := by simp [madeF]
/-- A channel's history is not touched ahead of its turn. -/
theorem loseC_hist (n nb c d : Nat) (loss : Int) (st : Nat → Int) (hn : n ≤ 32) (hb : nb ≤ 5) (hc : c < 2) (hd : d < 2) (h : c ≠ d) : histL (loseC n nb loss c st) n d = histL st n d := by
  unfold histL
  apply List.map_congr_left
  intro i hi
  have hi' : i < n := by simpa using hi
  unfold loseC
  rw [if_neg (by omega), if_neg (by omega), if_neg (by omega), if_neg (by omega)]
end Go.Proofs.YtcibajleknhklaaDoor
end

section
set_option linter.unusedSimpArgs false
namespace Go.Proofs.YtcibajleknhklaaDoor
open Go.RowKit Go.BigFrame
/-- The high and the low word of a whole number, modulo 2^128. -/
def accHi (z : Int) : Int := wrap64 (z / 18446744073709551616)
def accLo (z : Int) : Int := z % 18446744073709551616
def accAgg (z : Int) : Value := .agg #[.int .i64 (accHi z), .int .u64 (accLo z)]
theorem accLo_bd (z : Int) : 0 ≤ accLo z ∧ accLo z ≤ 18446744073709551615 := by unfold accLo; omega
/-- Sum and carry of two low words. -/
def addSum (x y c : Int) : Int := (x + y + c) % 18446744073709551616
def addCar (x y c : Int) : Int := (x + y + c) / 18446744073709551616
def subDif (x y c : Int) : Int := (x - y - c) % 18446744073709551616
def subBor (x y c : Int) : Int := if x < y + c then 1 else 0
theorem add64_run (x y c : Int) (hx : 0 ≤ x) (hy : 0 ≤ y) (hc : 0 ≤ c ∧ c ≤ 1) (w : World) :
    (callFunc 134 #[.int .u64 x, .int .u64 y, .int .u64 c]).run Tryd.prog w = .ok (.value (.tuple #[.int .u64 (addSum x y c), .int .u64 (addCar x y c)])) w := by
  rw [run_callFunc_extern Tryd.func134 (by kernel_rfl) (by kernel_rfl) (by kernel_rfl) (e := add64Entry) (by kernel_rfl), run_add64 x y c hx hy hc.1 hc.2]
  rfl
theorem add_facts (x y : Int) : addSum (accLo x) (accLo y) 0 = accLo (x + y) ∧ (0 ≤ addCar (accLo x) (accLo y) 0 ∧ addCar (accLo x) (accLo y) 0 ≤ 1) ∧
    wrap64 (addSum (IntKind.u64.wrap (accHi x)) (IntKind.u64.wrap (accHi y)) (addCar (accLo x) (accLo y) 0)) = accHi (x + y) := by
  rw [IntKind.wrap_u64, IntKind.wrap_u64]
  unfold addSum addCar accLo accHi wrap64
  omega
theorem u64_nonneg (x : Int) : 0 ≤ IntKind.u64.wrap x := by rw [IntKind.wrap_u64]; omega
theorem plus_any (x y : Int) (w : World) :
    Calls Tryd.prog 109 #[accAgg x, accAgg y] w fun e w' => e = .returned (accAgg (x + y)) ∧ Below w.heap.size w w' := by
  unfold accAgg
  go_enter Tryd.func109, Tryd.ntmps109
  go_wp2_with (rw [add64_run _ _ _ ?_ ?_ ?_])
  · refine bodyPost_ret (v := _) (by simp [results, Tryd.results109, go_sem]; rfl) rfl ⟨?_, ?_⟩
    · rw [(add_facts x y).1, (add_facts x y).2.2]
    · (repeat' (first | (with_reducible exact Below.refl _ _) | (with_reducible assumption) | (with_reducible refine Below.alloc ?_ ?_ _) | (with_reducible refine below_grew ?_ ?_ _) | (with_reducible refine Below.setCell ?_ ?_ _) | (with_reducible refine Below.drew ?_) | (with_reducible refine below_drewN ?_ _) | omega | (simp; done) | (simp; omega)))
  · exact u64_nonneg _
  · exact u64_nonneg _
  · exact (add_facts x y).2.1
  · exact (accLo_bd x).1
  · exact (accLo_bd y).1
  · omega
theorem sub64_run (x y b : Int) (hx : 0 ≤ x ∧ x ≤ 18446744073709551615) (hy : 0 ≤ y ∧ y ≤ 18446744073709551615) (hb : 0 ≤ b ∧ b ≤ 1) (w : World) :
    (callFunc 135 #[.int .u64 x, .int .u64 y, .int .u64 b]).run Tryd.prog w = .ok (.value (.tuple #[.int .u64 (subDif x y b), .int .u64 (subBor x y b)])) w := by
  obtain ⟨X, rfl⟩ := Int.eq_ofNat_of_zero_le hx.1
  obtain ⟨Y, rfl⟩ := Int.eq_ofNat_of_zero_le hy.1
  obtain ⟨B, rfl⟩ := Int.eq_ofNat_of_zero_le hb.1
  rw [run_callFunc_extern Tryd.func135 (by kernel_rfl) (by kernel_rfl) (by kernel_rfl) (e := Go.Proofs.sub64Entry) (by kernel_rfl), Go.Proofs.run_sub64 X Y B (by omega)]
  have h1 : (((X + 18446744073709551616 - Y - B) % 18446744073709551616 : Nat) : Int) = ((X : Int) - Y - B) % 18446744073709551616 := by omega
  have h2 : ((if X < Y + B then 1 else 0 : Nat) : Int) = if (X : Int) < Y + B then 1 else 0 := by split <;> split <;> omega
  rw [h1, h2]
  rfl
theorem sub_facts (x y : Int) : subDif (accLo x) (accLo y) 0 = accLo (x - y) ∧ (0 ≤ subBor (accLo x) (accLo y) 0 ∧ subBor (accLo x) (accLo y) 0 ≤ 1) ∧
    wrap64 (subDif (IntKind.u64.wrap (accHi x)) (IntKind.u64.wrap (accHi y)) (subBor (accLo x) (accLo y) 0)) = accHi (x - y) := by
  rw [IntKind.wrap_u64, IntKind.wrap_u64]
  unfold subDif subBor accLo accHi wrap64
  split <;> omega
theorem u64_bd (x : Int) : 0 ≤ IntKind.u64.wrap x ∧ IntKind.u64.wrap x ≤ 18446744073709551615 := by rw [IntKind.wrap_u64]; omega
theorem minus_any (x y : Int) (w : World) :
    Calls Tryd.prog 111 #[accAgg x, accAgg y] w fun e w' => e = .returned (accAgg (x - y)) ∧ Below w.heap.size w w' := by
  unfold accAgg
  go_enter Tryd.func111, Tryd.ntmps111
  go_wp2_with (rw [sub64_run _ _ _ ?_ ?_ ?_])
  · refine bodyPost_ret (v := _) (by simp [results, Tryd.results111, go_sem]; rfl) rfl ⟨?_, ?_⟩
    · rw [(sub_facts x y).1, (sub_facts x y).2.2]
    · (repeat' (first | (with_reducible exact Below.refl _ _) | (with_reducible assumption) | (with_reducible refine Below.alloc ?_ ?_ _) | (with_reducible refine below_grew ?_ ?_ _) | (with_reducible refine Below.setCell ?_ ?_ _) | (with_reducible refine Below.drew ?_) | (with_reducible refine below_drewN ?_ _) | omega | (simp; done) | (simp; omega)))
  · exact u64_bd _
  · exact u64_bd _
  · exact (sub_facts x y).2.1
  · exact accLo_bd x
  · exact accLo_bd y
  · omega
theorem of_words (x : Int) (h : -9223372036854775808 ≤ x ∧ x ≤ 9223372036854775807) : x / 2 ^ 63 = accHi x ∧ IntKind.u64.wrap x = accLo x := by
  rw [IntKind.wrap_u64]
  have : (2 : Int) ^ 63 = 9223372036854775808 := by decide
  rw [this]
  unfold accHi accLo wrap64
  omega
/-- A number of 64 bits. -/
def In64 (x : Int) : Prop := -9223372036854775808 ≤ x ∧ x ≤ 9223372036854775807
theorem of_any (x : Int) (h : In64 x) (w : World) :
    Calls Tryd.prog 59 #[.int .i64 x] w fun e w' => e = .returned (accAgg x) ∧ Below w.heap.size w w' := by
  have E := Lib.hid (of_words x h)
  clear h
  unfold accAgg
  go_enter Tryd.func59, Tryd.ntmps59
  go_wp2
  refine bodyPost_ret (v := _) (by simp [results, Tryd.results59, go_sem]; rfl) rfl ⟨?_, ?_⟩
  · rw [← E.out.1, ← E.out.2]; rfl
  · (repeat' (first | (with_reducible exact Below.refl _ _) | (with_reducible assumption) | (with_reducible refine Below.alloc ?_ ?_ _) | (with_reducible refine below_grew ?_ ?_ _) | (with_reducible refine Below.setCell ?_ ?_ _) | (with_reducible refine Below.drew ?_) | (with_reducible refine below_drewN ?_ _) | omega | (simp; done) | (simp; omega)))
theorem len_any (x : Int) (w : World) (h0 : 0 ≤ x) (h1 : x ≤ 18446744073709551615) :
    Calls Tryd.prog 63 #[.int .u64 x] w fun e w' => e = .returned (.int .i64 (Lib.bitLen x.toNat)) ∧ w = w' := (Tryd.bits_Len x w h0 h1).mono fun _ _ ⟨a, b⟩ => ⟨a, b.symm⟩
/-- High and low word of a product of two words. -/
def mulHi (x y : Int) : Int := x * y / 18446744073709551616
def mulLo (x y : Int) : Int := x * y % 18446744073709551616
theorem mul64_run (x y : Int) (hx : 0 ≤ x ∧ x ≤ 18446744073709551615) (hy : 0 ≤ y ∧ y ≤ 18446744073709551615) (w : World) :
    Calls Tryd.prog 145 #[.int .u64 x, .int .u64 y] w fun e w' => e = .returned (.tuple #[.int .u64 (mulHi x y), .int .u64 (mulLo x y)]) ∧ w = w' := by
  obtain ⟨X, rfl⟩ := Int.eq_ofNat_of_zero_le hx.1
  obtain ⟨Y, rfl⟩ := Int.eq_ofNat_of_zero_le hy.1
  refine (Tryd.bits_Mul64 X Y (by omega) (by omega) w).mono fun e w' ⟨he, hw⟩ => ⟨?_, hw.symm⟩
  rw [he]
  unfold mulHi mulLo
  simp
/-- The high word of a product by a number with a sign. -/
def hiTimes (x n : Int) : Int := IntKind.u64.wrap (mulHi (accLo x) (IntKind.u64.wrap n) + IntKind.u64.wrap (IntKind.u64.wrap (accHi x) * IntKind.u64.wrap n))
theorem split_words (x : Int) : ∃ k, x = accHi x * 18446744073709551616 + accLo x + k * 340282366920938463463374607431768211456 := by
  refine ⟨(x / 18446744073709551616 - accHi x) / 18446744073709551616, ?_⟩
  unfold accHi accLo wrap64
  omega
theorem times_facts (x n : Int) (h : In64 n) : mulLo (accLo x) (IntKind.u64.wrap n) = accLo (x * n) ∧
    (0 ≤ n → wrap64 (hiTimes x n) = accHi (x * n)) ∧ (n < 0 → wrap64 (IntKind.u64.wrap (hiTimes x n - accLo x)) = accHi (x * n)) := by
  obtain ⟨k, hk⟩ := split_words x
  unfold hiTimes
  have hl := accLo_bd x
  unfold In64 at h
  have hx : accHi x * n = accHi x * n := rfl
  generalize accHi x = H at *
  generalize hL : accLo x = L at *
  -- the product, by words
  have e1 : x * n = H * n * 18446744073709551616 + L * n + k * n * 340282366920938463463374607431768211456 := by
    rw [hk]; grind
  have wn : ∃ t : Int, (t = 0 ∨ t = 1) ∧ (0 ≤ n → t = 0) ∧ (n < 0 → t = 1) ∧ IntKind.u64.wrap n = n + t * 18446744073709551616 := by
    rw [IntKind.wrap_u64]
    by_cases hn : 0 ≤ n
    · exact ⟨0, .inl rfl, fun _ => rfl, fun h' => by omega, by omega⟩
    · exact ⟨1, .inr rfl, fun h' => by omega, fun _ => rfl, by omega⟩
  obtain ⟨t, ht, ht0, ht1, hw⟩ := wn
  have wH : ∃ u : Int, IntKind.u64.wrap H = H + u * 18446744073709551616 := by
    rw [IntKind.wrap_u64]
    exact ⟨-(H / 18446744073709551616), by omega⟩
  obtain ⟨u, hu⟩ := wH
  rw [hw, hu, e1]
  have e2 : L * (n + t * 18446744073709551616) = L * n + L * t * 18446744073709551616 := by grind
  have e3 : (H + u * 18446744073709551616) * (n + t * 18446744073709551616) = H * n + (H * t + u * n + u * t * 18446744073709551616) * 18446744073709551616 := by grind
  unfold mulLo mulHi
  rw [e2, e3]
  simp only [IntKind.wrap_u64]
  generalize H * n = p at *
  generalize L * n = q at *
  generalize k * n = r at *
  generalize H * t + u * n + u * t * 18446744073709551616 = v at *
  rcases ht with rfl | rfl
  · simp only [Int.mul_zero, Int.zero_mul, Int.add_zero]
    unfold accHi accLo wrap64
    refine ⟨by omega, fun _ => by omega, fun h' => by have := ht1 h'; omega⟩
  · simp only [Int.mul_one]
    unfold accHi accLo wrap64
    refine ⟨by omega, fun h' => by have := ht0 h'; omega, fun _ => by omega⟩
end Go.Proofs.YtcibajleknhklaaDoor
end

section
namespace Go.Proofs.YtcibajleknhklaaDoor
open Go.RowKit Go.BigFrame
set_option linter.unusedSimpArgs false
def cosL : List Int := [4096, 4095, 4091, 4085, 4076, 4065, 4052, 4036, 4017, 3996, 3973, 3948, 3920, 3889, 3857, 3822, 3784, 3745, 3703, 3659, 3612, 3564, 3513, 3461, 3406, 3349, 3290, 3229, 3166, 3102, 3035, 2967, 2896, 2824, 2751, 2675, 2598, 2520, 2440, 2359, 2276, 2191, 2106, 2019, 1931, 1842, 1751, 1660, 1567, 1474, 1380, 1285, 1189, 1092, 995, 897, 799, 700, 601, 501, 401, 301, 201, 101, 0]
def cosAt (j : Int) : Int := cosL.getD j.toNat 0
theorem cosAt_bd (j : Int) : 0 ≤ cosAt j ∧ cosAt j ≤ 4096 := by
  unfold cosAt
  have h : ∀ n : Nat, n < 65 → 0 ≤ cosL.getD n 0 ∧ cosL.getD n 0 ≤ 4096 := by decide
  by_cases hn : j.toNat < 65
  · exact h _ hn
  · rw [List.getD_eq_getElem?_getD, List.getElem?_eq_none (by show 65 ≤ j.toNat; omega)]; simp
/-- The cosine of a part of a turn, from 0 to 255. -/
def cosM (m : Int) : Int := if m ≤ 64 then cosAt m else if m ≤ 128 then -cosAt (128 - m) else if m < 192 then -cosAt (m - 128) else cosAt (256 - m)
def cosF (j : Int) : Int := cosM (j % 256)
theorem cosF_bd (j : Int) : -4096 ≤ cosF j ∧ cosF j ≤ 4096 := by
  unfold cosF cosM
  have h1 := cosAt_bd (j % 256)
  have h2 := cosAt_bd (128 - j % 256)
  have h3 := cosAt_bd (j % 256 - 128)
  have h4 := cosAt_bd (256 - j % 256)
  split
  · omega
  · split
    · omega
    · split <;> omega
abbrev CosW (w : World) : Prop := TabW 0 65 .i64 cosL w
theorem CosW.at {w : World} (h : CosW w) (j : Int) (h0 : 0 ≤ j) (h1 : j ≤ 64) : w.cell? ⟨0, j.toNat, none⟩ = some (.int .i64 (cosAt j)) := h.2 j.toNat (by omega)
theorem cosine_any (j : Int) (w : World) (hT : CosW w) :
    Calls Tryd.prog 98 #[.int .i64 j] w fun e w' => e = .returned (.int .i64 (cosF j)) ∧ w = w' := by
  have hc := fun i h0 h1 => hT.at i h0 h1
  have hm := i64_and255 j
  have h0 : 0 ≤ j % 256 := by omega
  have h1 : j % 256 ≤ 255 := by omega
  unfold cosF
  generalize j % 256 = m at *
  have hb : ∀ i, wrap64 (-cosAt i) = -cosAt i := fun i => IntWalk.wrap64_in _ (by have := cosAt_bd i; omega)
  by_cases t1 : m ≤ 64
  · have E := Lib.hid (show cosM m = cosAt m from by unfold cosM; rw [if_pos t1])
    have hc := hc (m) h0 t1
    go_enter Tryd.func98, Tryd.ntmps98
    go_wp2
    go_ret
    exact ⟨ret_int (by rw [E.out]), rfl⟩
  · skip
    by_cases t2 : m ≤ 128
    · have E := Lib.hid (show cosM m = -cosAt (128 - m) from by unfold cosM; rw [if_neg t1, if_pos t2])
      have hc := hc (128 - m) (by omega) (by omega)
      go_enter Tryd.func98, Tryd.ntmps98
      go_wp2
      go_ret
      exact ⟨ret_int (by rw [E.out]), rfl⟩
    · skip
      by_cases t3 : m < 192
      · have E := Lib.hid (show cosM m = -cosAt (128 - (256 - m)) from by unfold cosM; rw [if_neg t1, if_neg t2, if_pos t3, show m - 128 = 128 - (256 - m) from by omega])
        have hc := hc (m - 128) (by omega) (by omega)
        rw [show m - 128 = 128 - (256 - m) from by omega] at hc
        go_enter Tryd.func98, Tryd.ntmps98
        go_wp2
        go_ret
        exact ⟨ret_int (by rw [E.out]), rfl⟩
      · skip
        have E := Lib.hid (show cosM m = cosAt (256 - m) from by unfold cosM; rw [if_neg t1, if_neg t2, if_neg t3])
        have hc := hc (256 - m) (by omega) (by omega)
        go_enter Tryd.func98, Tryd.ntmps98
        go_wp2
        go_ret
        exact ⟨ret_int (by rw [E.out]), rfl⟩
/-- A pair, as a value. -/
def pairAgg (p : Int × Int) : Value := .agg #[.int .i64 p.1, .int .i64 p.2]
def turnF (j : Int) : Int × Int := (cosF j, -cosF (j - 64))
theorem cosF_mod (j : Int) : cosF (j % 256) = cosF j := by unfold cosF; rw [Int.emod_emod_of_dvd j (Int.dvd_refl 256)]
theorem cosF_mod' (j : Int) : cosF (j % 256 - 64) = cosF (j - 64) := by unfold cosF; congr 1; omega
theorem turn_any (j : Int) (w : World) (hT : CosW w) :
    Calls Tryd.prog 61 #[.int .i64 j] w fun e w' => e = .returned (pairAgg (turnF j)) ∧ Below w.heap.size w w' := by
  have hm := i64_and255 j
  have b0 : 0 ≤ j % 256 := by omega
  have b1 : j % 256 ≤ 255 := by omega
  have e1 := cosF_mod j
  have e2 := cosF_mod' j
  have hn : wrap64 (-cosF (j - 64)) = -cosF (j - 64) := IntWalk.wrap64_in _ (by have := cosF_bd (j - 64); omega)
  generalize j % 256 = m at *
  have E1 := Lib.hid e1
  have E2 := Lib.hid e2
  have En := Lib.hid hn
  clear e1 e2 hn
  go_enter Tryd.func61, Tryd.ntmps61
  go_wp2_with (go_at_call 98; refine (cosine_any _ _ ?_).mono ?_; exact hT.below (by (repeat' (first | (with_reducible exact Below.refl _ _) | (with_reducible assumption) | (with_reducible refine Below.alloc ?_ ?_ _) | (with_reducible refine below_grew ?_ ?_ _) | (with_reducible refine Below.setCell ?_ ?_ _) | (with_reducible refine Below.drew ?_) | (with_reducible refine below_drewN ?_ _) | omega | (simp; done) | (simp; omega)))); rintro e w' ⟨rfl, rfl⟩)
  refine bodyPost_ret (v := _) (by simp [results, Tryd.results61, go_sem]; rfl) rfl ⟨?_, ?_⟩
  · rw [E1.out, E2.out, En.out]; rfl
  · (repeat' (first | (with_reducible exact Below.refl _ _) | (with_reducible assumption) | (with_reducible refine Below.alloc ?_ ?_ _) | (with_reducible refine below_grew ?_ ?_ _) | (with_reducible refine Below.setCell ?_ ?_ _) | (with_reducible refine Below.drew ?_) | (with_reducible refine below_drewN ?_ _) | omega | (simp; done) | (simp; omega)))
def timesRe (a b c d : Int) : Int := wrap64 (wrap64 (a * c) - wrap64 (b * d))
def timesIm (a b c d : Int) : Int := wrap64 (wrap64 (a * d) + wrap64 (b * c))
theorem times_any (p q : Int × Int) (w : World) :
    Calls Tryd.prog 104 #[pairAgg p, pairAgg q] w fun e w' => e = .returned (pairAgg (timesRe p.1 p.2 q.1 q.2, timesIm p.1 p.2 q.1 q.2)) ∧ Below w.heap.size w w' := by
  obtain ⟨a, b⟩ := p
  obtain ⟨c, d⟩ := q
  unfold pairAgg
  go_enter Tryd.func104, Tryd.ntmps104
  go_wp2
  refine bodyPost_ret (v := _) (by simp [results, Tryd.results104, go_sem]; rfl) rfl ⟨?_, ?_⟩
  · rfl
  · (repeat' (first | (with_reducible exact Below.refl _ _) | (with_reducible assumption) | (with_reducible refine Below.alloc ?_ ?_ _) | (with_reducible refine below_grew ?_ ?_ _) | (with_reducible refine Below.setCell ?_ ?_ _) | (with_reducible refine Below.drew ?_) | (with_reducible refine below_drewN ?_ _) | omega | (simp; done) | (simp; omega)))
end Go.Proofs.YtcibajleknhklaaDoor
end

section
namespace Go.Proofs.YtcibajleknhklaaDoor
open Go.RowKit Go.BigFrame
set_option linter.unusedSimpArgs false
theorem accTimes_any (x n : Int) (h : In64 n) (w : World) :
    Calls Tryd.prog 131 #[accAgg x, .int .i64 n] w fun e w' => e = .returned (accAgg (x * n)) ∧ Below w.heap.size w w' := by
  obtain ⟨f1, f2, f3⟩ := times_facts x n h
  have F1 := Lib.hid f1
  clear h
  unfold hiTimes at f2 f3
  unfold accAgg
  by_cases hn : 0 ≤ n
  · have F2 := Lib.hid (f2 hn)
    clear f1 f2 f3
    go_enter Tryd.func131, Tryd.ntmps131
    go_wp2_with (go_at_call 145; refine (mul64_run _ _ ?_ ?_ _).mono ?_; exact accLo_bd _; exact u64_bd _; rintro e w' ⟨rfl, rfl⟩)
    refine bodyPost_ret (v := _) (by simp [results, Tryd.results131, go_sem]; rfl) rfl ⟨?_, ?_⟩
    · rw [← F1.out, ← F2.out]
    · (repeat' (first | (with_reducible exact Below.refl _ _) | (with_reducible assumption) | (with_reducible refine Below.alloc ?_ ?_ _) | (with_reducible refine below_grew ?_ ?_ _) | (with_reducible refine Below.setCell ?_ ?_ _) | (with_reducible refine Below.drew ?_) | (with_reducible refine below_drewN ?_ _) | omega | (simp; done) | (simp; omega)))
  · have F3 := Lib.hid (f3 (by omega))
    have hn' : n < 0 := by omega
    clear f1 f2 f3 hn
    go_enter Tryd.func131, Tryd.ntmps131
    go_wp2_with (go_at_call 145; refine (mul64_run _ _ ?_ ?_ _).mono ?_; exact accLo_bd _; exact u64_bd _; rintro e w' ⟨rfl, rfl⟩)
    refine bodyPost_ret (v := _) (by simp [results, Tryd.results131, go_sem]; rfl) rfl ⟨?_, ?_⟩
    · rw [← F1.out, ← F3.out]
    · (repeat' (first | (with_reducible exact Below.refl _ _) | (with_reducible assumption) | (with_reducible refine Below.alloc ?_ ?_ _) | (with_reducible refine below_grew ?_ ?_ _) | (with_reducible refine Below.setCell ?_ ?_ _) | (with_reducible refine Below.drew ?_) | (with_reducible refine below_drewN ?_ _) | omega | (simp; done) | (simp; omega)))
theorem mul_any (a b : Int) (ha : In64 a) (hb : In64 b) (w : World) :
    Calls Tryd.prog 110 #[.int .i64 a, .int .i64 b] w fun e w' => e = .returned (accAgg (a * b)) ∧ Below w.heap.size w w' := by
  have h1 := fun w => of_any a ha w
  have h2 := fun w => accTimes_any a b hb w
  have H1 := Lib.hid h1
  have H2 := Lib.hid h2
  clear h1 h2 ha hb
  go_enter Tryd.func110, Tryd.ntmps110
  go_wp2_with fail
  refine (H1.out _).mono ?_
  rintro e w' ⟨rfl, hb1⟩
  obtain ⟨x1, rfl⟩ := below_as_grew hb1
  clear hb1
  go_wp2_with fail
  refine (H2.out _).mono ?_
  rintro e w' ⟨rfl, hb1⟩
  obtain ⟨x2, rfl⟩ := below_as_grew hb1
  clear hb1
  unfold accAgg
  go_wp2
  refine bodyPost_ret (v := _) (by simp [results, Tryd.results110, go_sem]; rfl) rfl ⟨?_, ?_⟩
  · rfl
  · (repeat' (first | (with_reducible exact Below.refl _ _) | (with_reducible assumption) | (with_reducible refine Below.alloc ?_ ?_ _) | (with_reducible refine below_grew ?_ ?_ _) | (with_reducible refine Below.setCell ?_ ?_ _) | (with_reducible refine Below.drew ?_) | (with_reducible refine below_drewN ?_ _) | omega | (simp; done) | (simp; omega)))
/-- A pair of wide numbers, as a value. -/
def bigAgg (x y : Int) : Value := .agg #[.int .i64 (accHi x), .int .u64 (accLo x), .int .i64 (accHi y), .int .u64 (accLo y)]
theorem bigPlus_any (a b c d : Int) (w : World) :
    Calls Tryd.prog 68 #[bigAgg a b, bigAgg c d] w fun e w' => e = .returned (bigAgg (a + c) (b + d)) ∧ Below w.heap.size w w' := by
  have h1 := fun x y w => plus_any x y w
  unfold accAgg at h1
  have H := Lib.hid h1
  clear h1
  unfold bigAgg
  go_enter Tryd.func68, Tryd.ntmps68
  go_wp2
  first | refine wp_region_grew2 11 (by kernel_rfl) (by kernel_rfl) ?_ | refine wp_region_grew 11 (by kernel_rfl) (by kernel_rfl) ?_
  simp only [List.take_succ_cons, List.take_zero, List.drop_succ_cons, List.drop_zero]
  repeat (go_big_quiet_step (refine Calls.grew_of (H.out _ _ _)))
  refine wpQuiet_nil ?_
  rintro _ ⟨x, rfl⟩
  go_wp2
  refine bodyPost_ret (v := _) (by simp [results, Tryd.results68, go_sem]; rfl) rfl ⟨?_, ?_⟩
  · rfl
  · (repeat' (first | (with_reducible exact Below.refl _ _) | (with_reducible assumption) | (with_reducible refine Below.alloc ?_ ?_ _) | (with_reducible refine below_grew ?_ ?_ _) | (with_reducible refine Below.setCell ?_ ?_ _) | (with_reducible refine Below.drew ?_) | (with_reducible refine below_drewN ?_ _) | omega | (simp; done) | (simp; omega)))
theorem pairBig_any (a b c d : Int) (ha : In64 a) (hb : In64 b) (hc : In64 c) (hd : In64 d) (w : World) :
    Calls Tryd.prog 69 #[pairAgg (a, b), pairAgg (c, d)] w fun e w' => e = .returned (bigAgg (a * c - b * d) (a * d + b * c)) ∧ Below w.heap.size w w' := by
  have m1 := mul_any
  have p1 := plus_any
  have p2 := minus_any
  unfold accAgg at m1 p1 p2
  have M1 := Lib.hid m1
  have P1 := Lib.hid p1
  have P2 := Lib.hid p2
  clear m1 p1 p2
  unfold pairAgg
  go_enter Tryd.func69, Tryd.ntmps69
  go_wp2
  first | refine wp_region_grew2 23 (by kernel_rfl) (by kernel_rfl) ?_ | refine wp_region_grew 23 (by kernel_rfl) (by kernel_rfl) ?_
  simp only [List.take_succ_cons, List.take_zero, List.drop_succ_cons, List.drop_zero]
  repeat (go_big_quiet_step (first | (go_at_call 110; refine Calls.grew_of (M1.out _ _ ?_ ?_ _) <;> assumption) | (go_at_call 109; exact Calls.grew_of (P1.out _ _ _)) | (go_at_call 111; exact Calls.grew_of (P2.out _ _ _))))
  refine wpQuiet_nil ?_
  rintro _ ⟨x, rfl⟩
  go_wp2
  refine bodyPost_ret (v := _) (by simp [results, Tryd.results69, go_sem]; rfl) rfl ⟨?_, ?_⟩
  · rfl
  · (repeat' (first | (with_reducible exact Below.refl _ _) | (with_reducible assumption) | (with_reducible refine Below.alloc ?_ ?_ _) | (with_reducible refine below_grew ?_ ?_ _) | (with_reducible refine Below.setCell ?_ ?_ _) | (with_reducible refine Below.drew ?_) | (with_reducible refine below_drewN ?_ _) | omega | (simp; done) | (simp; omega)))
end Go.Proofs.YtcibajleknhklaaDoor
end

section
namespace Go.Proofs.YtcibajleknhklaaDoor
open Go.RowKit Go.BigFrame
set_option linter.unusedSimpArgs false
def wmul (p q : Int × Int) : Int × Int := (p.1 * q.1 - p.2 * q.2, p.1 * q.2 + p.2 * q.1)
def wturn (s : Nat) (k : Int) (i : Nat) : Int × Int := turnF (k % 2 ^ (s - i) * 2 ^ (8 - (s - i)))
def wstep (s : Nat) (n k : Int) (i : Nat) (p : Int × Int) : Int × Int := if n / 2 ^ i % 2 = 0 then wmul p (4096, 0) else wmul p (wturn s k i)
def weightTo (s : Nat) (n k : Int) : Nat → Int × Int
  | 0 => (1, 0)
  | i + 1 => wstep s n k i (weightTo s n k i)
def weightF (s : Nat) (n k : Int) : Int × Int := weightTo s n k s
/-- Half the numbers are held: at most so large. -/
def small (b : Int) (p : Int × Int) : Prop := -b ≤ p.1 ∧ p.1 ≤ b ∧ -b ≤ p.2 ∧ p.2 ≤ b
theorem prod_le {a b x y : Int} (ha : -a ≤ x ∧ x ≤ a) (hb : -b ≤ y ∧ y ≤ b) : -(a * b) ≤ x * y ∧ x * y ≤ a * b := by
  have h1 : x * y ≤ a * b := by
    by_cases hy : 0 ≤ y
    · calc x * y ≤ a * y := Int.mul_le_mul_of_nonneg_right ha.2 hy
        _ ≤ a * b := Int.mul_le_mul_of_nonneg_left hb.2 (by omega)
    · calc x * y = (-x) * (-y) := by grind
        _ ≤ a * (-y) := Int.mul_le_mul_of_nonneg_right (by omega) (by omega)
        _ ≤ a * b := Int.mul_le_mul_of_nonneg_left (by omega) (by omega)
  have h2 : (-x) * y ≤ a * b := by
    by_cases hy : 0 ≤ y
    · calc (-x) * y ≤ a * y := Int.mul_le_mul_of_nonneg_right (by omega) hy
        _ ≤ a * b := Int.mul_le_mul_of_nonneg_left hb.2 (by omega)
    · calc (-x) * y = x * (-y) := by grind
        _ ≤ a * (-y) := Int.mul_le_mul_of_nonneg_right (by omega) (by omega)
        _ ≤ a * b := Int.mul_le_mul_of_nonneg_left (by omega) (by omega)
  have e : (-x) * y = -(x * y) := by grind
  omega
theorem wmul_small {b c : Int} {p q : Int × Int} (hp : small b p) (hq : small c q) : small (2 * (b * c)) (wmul p q) := by
  obtain ⟨p1, p2, p3, p4⟩ := hp
  obtain ⟨q1, q2, q3, q4⟩ := hq
  have h1 := prod_le (a := b) (b := c) ⟨p1, p2⟩ ⟨q1, q2⟩
  have h2 := prod_le (a := b) (b := c) ⟨p3, p4⟩ ⟨q3, q4⟩
  have h3 := prod_le (a := b) (b := c) ⟨p1, p2⟩ ⟨q3, q4⟩
  have h4 := prod_le (a := b) (b := c) ⟨p3, p4⟩ ⟨q1, q2⟩
  unfold small wmul
  refine ⟨?_, ?_, ?_, ?_⟩ <;> simp only <;> omega
theorem turnF_small (j : Int) : small 4096 (turnF j) := by
  have h1 := cosF_bd j
  have h2 := cosF_bd (j - 64)
  unfold small turnF
  refine ⟨?_, ?_, ?_, ?_⟩ <;> simp only <;> omega
theorem wstep_small {b : Int} {p : Int × Int} (s : Nat) (n k : Int) (i : Nat) (hp : small b p) : small (8192 * b) (wstep s n k i p) := by
  have e : (8192 : Int) * b = 2 * (b * 4096) := by omega
  rw [e]
  unfold wstep
  split
  · exact wmul_small hp (by unfold small; decide)
  · exact wmul_small hp (turnF_small _)
theorem weightTo_small (s : Nat) (n k : Int) (i : Nat) : small (8192 ^ i) (weightTo s n k i) := by
  induction i with
  | zero => unfold small weightTo; decide
  | succ i ih =>
    have := wstep_small s n k i ih
    rw [Int.pow_succ, Int.mul_comm]
    exact this
/-- A product that doesn't wrap. -/
theorem times_exact (p q : Int × Int) (hp : small 549755813888 p) (hq : small 4096 q) : (timesRe p.1 p.2 q.1 q.2, timesIm p.1 p.2 q.1 q.2) = wmul p q := by
  obtain ⟨p1, p2, p3, p4⟩ := hp
  obtain ⟨q1, q2, q3, q4⟩ := hq
  have h1 := prod_le (a := 549755813888) (b := 4096) ⟨p1, p2⟩ ⟨q1, q2⟩
  have h2 := prod_le (a := 549755813888) (b := 4096) ⟨p3, p4⟩ ⟨q3, q4⟩
  have h3 := prod_le (a := 549755813888) (b := 4096) ⟨p1, p2⟩ ⟨q3, q4⟩
  have h4 := prod_le (a := 549755813888) (b := 4096) ⟨p3, p4⟩ ⟨q1, q2⟩
  unfold timesRe timesIm wmul
  rw [IntWalk.wrap64_in (p.1 * q.1) (by omega), IntWalk.wrap64_in (p.2 * q.2) (by omega), IntWalk.wrap64_in (p.1 * q.2) (by omega), IntWalk.wrap64_in (p.2 * q.1) (by omega), IntWalk.wrap64_in _ (by omega), IntWalk.wrap64_in _ (by omega)]
theorem weight_held (s : Nat) (n k : Int) (i : Nat) (h : i ≤ 3) : small 549755813888 (weightTo s n k i) := by
  have h1 := weightTo_small s n k i
  have h2 : (8192 : Int) ^ i ≤ 549755813888 := by
    have : i = 0 ∨ i = 1 ∨ i = 2 ∨ i = 3 := by omega
    rcases this with rfl | rfl | rfl | rfl <;> decide
  unfold small at *
  omega
theorem sizes (d : Nat) (h1 : 1 ≤ d) (h4 : d ≤ 4) : (2 : Int) ≤ 2 ^ d ∧ (2 : Int) ^ d ≤ 16 ∧ (256 : Int) / 2 ^ d = 2 ^ (8 - d) ∧ (1 : Int) ≤ 2 ^ (8 - d) ∧ (2 : Int) ^ (8 - d) ≤ 128 ∧ (2 : Int) ^ d * 2 ^ (8 - d) = 256 := by
  have : d = 1 ∨ d = 2 ∨ d = 3 ∨ d = 4 := by omega
  rcases this with rfl | rfl | rfl | rfl <;> decide
theorem weight_walk (S : Nat) (hS : S ≤ 4) (s M n k : Int) (h1 : max s 0 = M) (h2 : min M 4 = S) (w : World) (hT : CosW w) :
    Calls Tryd.prog 70 #[.int .i64 s, .int .i64 n, .int .i64 k] w fun e w' => e = .returned (pairAgg (weightF S n k)) ∧ Below w.heap.size w w' := by
  have ht := times_any
  have hu := turn_any
  unfold pairAgg at ht hu
  have HT := Lib.hid ht
  have Hu := Lib.hid hu
  clear ht hu
  have ha := fun x => i64_and1 x
  unfold pairAgg
  have hS0 : (0 : Int) ≤ S := by omega
  have hS4 : (S : Int) ≤ 4 := by omega
  go_enter Tryd.func70, Tryd.ntmps70
  go_wp2
  clear h1 h2
  go_loopw [15] (fun c wr => ∃ i : Nat, i ≤ S ∧ c = .int .i64 i ∧ ∃ x, wr = ((w.alloc (.cells #[.int .i64 0, .int .i64 0] 49)).alloc (.cells #[.int .i64 (weightTo S n k i).1, .int .i64 (weightTo S n k i).2] 49)).grew x) (fun c _ => S - (intOf c).toNat)
  case atStart => exact ⟨0, by omega, rfl, World.as_grew _⟩
  case round =>
    obtain ⟨i, hi, rfl, x, rfl⟩ := hrel
    by_cases hlt : i < S
    · have hlt' : (i : Int) < S := by omega
      have hi0 : (0 : Int) ≤ i := by omega
      by_cases hb : n / 2 ^ i % 2 = 0
      · have E := Lib.hid (show weightTo S n k (i + 1) = wmul (weightTo S n k i) (4096, 0) from by show wstep S n k i _ = _; unfold wstep; rw [if_pos hb])
        have Ex := Lib.hid (times_exact (weightTo S n k i) (4096, 0) (weight_held S n k i (by omega)) (by unfold small; decide))
        go_wp2_with (go_at_call 104; refine (HT.out (weightTo S n k i) (4096, 0) _).mono ?_; rintro e w' ⟨rfl, hb1⟩; obtain ⟨x1, rfl⟩ := below_as_grew hb1; clear hb1)
        go_roundw
        case rel => exact ⟨i + 1, by omega, by go_num, by rw [E.out, ← Ex.out]; simp only [World.grew_grew]; exact ⟨_, rfl⟩⟩
        case measure => simp [intOf]; omega
      · have hd : ∃ d : Nat, S - i = d ∧ 1 ≤ d ∧ d ≤ 4 := ⟨S - i, rfl, by omega, by omega⟩
        obtain ⟨d, hd, hd1, hd4⟩ := hd
        have E := Lib.hid (show weightTo S n k (i + 1) = wmul (weightTo S n k i) (turnF (k % 2 ^ d * 2 ^ (8 - d))) from by show wstep S n k i _ = _; unfold wstep wturn; rw [if_neg hb, hd])
        have Ex := Lib.hid (times_exact (weightTo S n k i) (turnF (k % 2 ^ d * 2 ^ (8 - d))) (weight_held S n k i (by omega)) (turnF_small _))
        obtain ⟨s1, s2, s3, s4, s5, s6⟩ := sizes d hd1 hd4
        have z3 := i64_mask d (by omega) k
        have z5 : 0 ≤ k % 2 ^ d := Int.emod_nonneg _ (by omega)
        have z6 : k % 2 ^ d < 2 ^ d := Int.emod_lt_of_pos _ (by omega)
        have z7 : k % 2 ^ d * 2 ^ (8 - d) ≤ 2 ^ d * 2 ^ (8 - d) := Int.mul_le_mul_of_nonneg_right (by omega) (by omega)
        have z8 : 0 ≤ k % 2 ^ d * 2 ^ (8 - d) := Int.mul_nonneg z5 (by omega)
        generalize hD : (2 : Int) ^ d = D at *
        generalize (2 : Int) ^ (8 - d) = F at *
        have z1 : wrap64 (2 ^ (S - i)) = D := by rw [hd, hD]; exact IntWalk.wrap64_in _ (by omega)
        have z9 : wrap64 (k % D * F) = k % D * F := IntWalk.wrap64_in _ (by omega)
        clear hD hd hd1 hd4 s4 s5 s6 z5 z6 z7 z8
        go_wp2_with fail
        first | refine wp_region_grew2 10 (by kernel_rfl) (by kernel_rfl) ?_ | refine wp_region_grew 10 (by kernel_rfl) (by kernel_rfl) ?_
        simp only [List.take_succ_cons, List.take_zero, List.drop_succ_cons, List.drop_zero]
        repeat (go_big_quiet_step (first | (go_at_call 104; exact Calls.grew_of (HT.out (weightTo S n k i) (turnF (k % D * F)) _)) | (go_at_call 61; refine Calls.grew_of (Hu.out _ _ ?_); exact hT.below (by (repeat' (first | (with_reducible exact Below.refl _ _) | (with_reducible assumption) | (with_reducible refine Below.alloc ?_ ?_ _) | (with_reducible refine below_grew ?_ ?_ _) | (with_reducible refine Below.setCell ?_ ?_ _) | (with_reducible refine Below.drew ?_) | (with_reducible refine below_drewN ?_ _) | omega | (simp; done) | (simp; omega)))))))
        refine wpQuiet_nil ?_
        rintro _ ⟨x, rfl⟩
        go_wp2
        go_roundw
        case rel => exact ⟨i + 1, by omega, by go_num, by rw [E.out, ← Ex.out]; simp only [World.grew_grew]; exact ⟨_, rfl⟩⟩
        case measure => simp [intOf]; omega
    · obtain rfl : S = i := by omega
      go_wp2
      refine bodyPost_ret (v := _) (by simp [results, Tryd.results70, go_sem]; rfl) rfl ⟨?_, ?_⟩
      · rfl
      · (repeat' (first | (with_reducible exact Below.refl _ _) | (with_reducible assumption) | (with_reducible refine Below.alloc ?_ ?_ _) | (with_reducible refine below_grew ?_ ?_ _) | (with_reducible refine Below.setCell ?_ ?_ _) | (with_reducible refine Below.drew ?_) | (with_reducible refine below_drewN ?_ _) | omega | (simp; done) | (simp; omega)))
/-- How many bits count. -/
def clampS (s : Int) : Nat := (min (max s 0) 4).toNat
theorem weight_any (s n k : Int) (w : World) (hT : CosW w) :
    Calls Tryd.prog 70 #[.int .i64 s, .int .i64 n, .int .i64 k] w fun e w' => e = .returned (pairAgg (weightF (clampS s) n k)) ∧ Below w.heap.size w w' :=
  weight_walk (clampS s) (by unfold clampS; omega) s _ n k rfl (by unfold clampS; omega) w hT
end Go.Proofs.YtcibajleknhklaaDoor
end

section
namespace Go.Proofs.YtcibajleknhklaaDoor
open Go.RowKit Go.BigFrame
set_option linter.unusedSimpArgs false
/-- A list of pairs that lies in memory. -/
def PairsAt (w : World) (v : Value) (l : List (Int × Int)) : Prop :=
  (l = [] ∧ ∃ a c, v = .slice a 0 c) ∨ ∃ b off c, v = .slice (some ⟨b, off, none⟩) l.length c ∧ b < w.heap.size ∧
    ∀ j, j < l.length → w.cell? ⟨b, off + j * 2, none⟩ = some (.int .i64 (l.getD j (0, 0)).1) ∧ w.cell? ⟨b, off + j * 2 + 1, none⟩ = some (.int .i64 (l.getD j (0, 0)).2)
theorem PairsAt.below {w w' : World} {v : Value} {l : List (Int × Int)} (h : PairsAt w v l) (hb : Below w.heap.size w w') : PairsAt w' v l := by
  rcases h with h | ⟨b, off, c, hv, hlt, hc⟩
  · exact .inl h
  · exact .inr ⟨b, off, c, hv, Nat.lt_of_lt_of_le hlt hb.size, fun j hj => ⟨(hb.cell (p := ⟨b, _, none⟩) hlt).trans (hc j hj).1, (hb.cell (p := ⟨b, _, none⟩) hlt).trans (hc j hj).2⟩⟩
/-- One summand. -/
def term (s : Nat) (l : List (Int × Int)) (k n : Nat) : Int × Int := wmul (l.getD n (0, 0)) (weightF s n k)
def sumTo (s : Nat) (l : List (Int × Int)) (k : Nat) : Nat → Int × Int
  | 0 => (0, 0)
  | n + 1 => ((sumTo s l k n).1 + (term s l k n).1, (sumTo s l k n).2 + (term s l k n).2)
def bigCells (p : Int × Int) : List Value := [.int .i64 (accHi p.1), .int .u64 (accLo p.1), .int .i64 (accHi p.2), .int .u64 (accLo p.2)]
/-- The sums of a list of 2^s pairs. -/
def directF (s : Nat) (l : List (Int × Int)) : List (Int × Int) := (List.range l.length).map fun k => sumTo s l k l.length
theorem len_pow (s : Nat) (hs : s ≤ 4) : Lib.bitLen (2 ^ s) = s + 1 := by
  have : s = 0 ∨ s = 1 ∨ s = 2 ∨ s = 3 ∨ s = 4 := by omega
  rcases this with rfl | rfl | rfl | rfl | rfl <;> decide
theorem pow_wrap (s : Nat) (hs : s ≤ 4) : wrap64 (2 ^ s) = ((2 ^ s : Nat) : Int) := by
  have : s = 0 ∨ s = 1 ∨ s = 2 ∨ s = 3 ∨ s = 4 := by omega
  rcases this with rfl | rfl | rfl | rfl | rfl <;> (unfold wrap64; decide)
theorem clampS_nat (s : Nat) (hs : s ≤ 4) : clampS s = s := by unfold clampS; omega
theorem clampS_le (s : Int) : clampS s ≤ 4 := by unfold clampS; omega
theorem weightF_small (s : Nat) (hs : s ≤ 4) (n k : Int) : small 4503599627370496 (weightF s n k) := by
  have h1 := weightTo_small s n k s
  have h2 : (8192 : Int) ^ s ≤ 4503599627370496 := by
    have : s = 0 ∨ s = 1 ∨ s = 2 ∨ s = 3 ∨ s = 4 := by omega
    rcases this with rfl | rfl | rfl | rfl | rfl <;> decide
  unfold weightF small at *
  omega
theorem weight_in64 (s n k : Int) : In64 (weightF (clampS s) n k).1 ∧ In64 (weightF (clampS s) n k).2 := by
  have h := weightF_small (clampS s) (clampS_le s) n k
  unfold small at h
  unfold In64
  omega
theorem acc_zero : accHi 0 = 0 ∧ accLo 0 = 0 := by unfold accHi accLo wrap64; decide
theorem bigInfo : (Tryd.prog.info? 37).map (fun i => (i.zero, i.size, i.bytes)) = some (some (.agg #[.int .i64 0, .int .u64 0, .int .i64 0, .int .u64 0]), 4, 32) := by kernel_rfl
theorem direct_yes (s : Nat) (hs : s ≤ 4) (l : List (Int × Int)) (hl : l.length = 2 ^ s) (h64 : ∀ j, j < l.length → In64 (l.getD j (0, 0)).1 ∧ In64 (l.getD j (0, 0)).2) (b off c : Nat) (w : World) (hT : CosW w) (hb : b < w.heap.size)
    (hz : ∀ j, j < l.length → w.cell? ⟨b, off + j * 2, none⟩ = some (.int .i64 (l.getD j (0, 0)).1) ∧ w.cell? ⟨b, off + j * 2 + 1, none⟩ = some (.int .i64 (l.getD j (0, 0)).2)) :
    Calls Tryd.prog 26 #[.slice (some ⟨b, off, none⟩) l.length c] w fun e w' => ∃ v, e = .returned v ∧ w'.ownsRow w.heap.size 37 4 v l.length ((directF s l).flatMap bigCells) ∧ Below w.heap.size w w' := by
  have hlen : l.length ≤ 16 := by
    have : s = 0 ∨ s = 1 ∨ s = 2 ∨ s = 3 ∨ s = 4 := by omega
    rw [hl]; rcases this with rfl | rfl | rfl | rfl | rfl <;> decide
  have hLen := len_pow s hs
  rw [← hl] at hLen
  have hsh : wrap64 (2 ^ s) = l.length := by rw [hl]; exact pow_wrap s hs
  have hpos : 0 < l.length := by rw [hl]; exact Nat.two_pow_pos s
  generalize hn : l.length = n at *
  have hw : IntKind.u64.wrap (n : Int) = n := by rw [IntKind.wrap_u64]; omega
  have HL := Lib.hid hl
  have HZ := Lib.hid hz
  have H64 := Lib.hid h64
  have Hn := Lib.hid hn
  have hcl := Lib.hid (clampS_nat s hs)
  clear hl hz h64 hn
  go_enter Tryd.func26, Tryd.ntmps26
  go_wp2_with (go_at_call 63; refine (len_any _ _ ?_ ?_).mono ?_; omega; omega; rintro e w' ⟨rfl, rfl⟩)
  clear hw hLen
  go_loopw [29, 4] (fun cnt v wr => ∃ k : Nat, k ≤ n ∧ cnt = .int .i64 k ∧ wr.ownsRow w.heap.size 37 4 v k (((List.range k).map fun i => sumTo s l i n).flatMap bigCells) ∧ Below w.heap.size w wr) (fun cnt _ _ => n - (intOf cnt).toNat)
  case atStart => exact ⟨0, by omega, rfl, World.ownsRow_nil _ _ _ _, Below.refl _ _⟩
  case round =>
    obtain ⟨k, hk, rfl, hown, hbel⟩ := hrel
    obtain ⟨wo, rfl⟩ : ∃ wo : World, wo = wr := ⟨_, rfl⟩
    by_cases hlt : k < n
    · have hlt' : (k : Int) < n := by omega
      have hz := HZ.out
      have hz1 : ∀ j, j < n → wo.cell? ⟨b, off + j * 2, none⟩ = some (.int .i64 (l.getD j (0, 0)).1) := fun j hj => (hbel.cell (p := ⟨b, _, none⟩) hb).trans (hz j hj).1
      have hz2 : ∀ j, j < n → wo.cell? ⟨b, off + j * 2 + 1, none⟩ = some (.int .i64 (l.getD j (0, 0)).2) := fun j hj => (hbel.cell (p := ⟨b, _, none⟩) hb).trans (hz j hj).2
      have HZ1 := Lib.hid hz1
      have HZ2 := Lib.hid hz2
      have hbo : b < wo.heap.size := Nat.lt_of_lt_of_le hb hbel.size
      have hbo1 : b < wo.heap.size + 1 := by omega
      have hTo : CosW wo := hT.below hbel
      have W1 := weight_any
      have B1 := pairBig_any
      have S1 := bigPlus_any
      unfold pairAgg at W1 B1
      unfold bigAgg at B1 S1
      have HW := Lib.hid W1
      have HB := Lib.hid B1
      have HS := Lib.hid S1
      clear hz hz1 hz2 W1 B1 S1
      go_wp2
      go_loopw [34] (fun cnt wr => ∃ j : Nat, j ≤ n ∧ cnt = .int .i64 j ∧ ∃ x, wr = (wo.alloc (.cells #[.int .i64 (accHi (sumTo s l k j).1), .int .u64 (accLo (sumTo s l k j).1), .int .i64 (accHi (sumTo s l k j).2), .int .u64 (accLo (sumTo s l k j).2)] 37)).grew x) (fun cnt _ => n - (intOf cnt).toNat)
      case atStart =>
        refine ⟨0, by omega, rfl, ?_⟩
        show ∃ x, _ = (wo.alloc (.cells #[.int .i64 (accHi 0), .int .u64 (accLo 0), .int .i64 (accHi 0), .int .u64 (accLo 0)] 37)).grew x
        rw [acc_zero.1, acc_zero.2]
        exact World.as_grew _
      case round =>
        obtain ⟨j, hj, rfl, x, rfl⟩ := hrel
        by_cases hjn : j < n
        · have hjn' : (j : Int) < n := by omega
          have hj0 : (0 : Int) ≤ j := by omega
          have c1 := HZ1.out j hjn
          have c2 := HZ2.out j hjn
          go_wp2_with fail
          first | refine wp_region_grew2 8 (by kernel_rfl) (by kernel_rfl) ?_ | refine wp_region_grew 8 (by kernel_rfl) (by kernel_rfl) ?_
          simp only [List.take_succ_cons, List.take_zero, List.drop_succ_cons, List.drop_zero]
          repeat (go_big_quiet_step (first | (go_at_call 70; refine Calls.grew_of (HW.out _ _ _ _ ?_); exact hTo.below (by (repeat' (first | (with_reducible exact Below.refl _ _) | (with_reducible assumption) | (with_reducible refine Below.alloc ?_ ?_ _) | (with_reducible refine below_grew ?_ ?_ _) | (with_reducible refine Below.setCell ?_ ?_ _) | (with_reducible refine Below.drew ?_) | (with_reducible refine below_drewN ?_ _) | omega | (simp; done) | (simp; omega))))) | (go_at_call 69; refine Calls.grew_of (HB.out _ _ _ _ ?_ ?_ ?_ ?_ _) <;> first | exact (H64.out j hjn).1 | exact (H64.out j hjn).2 | exact (weight_in64 _ _ _).1 | exact (weight_in64 _ _ _).2) | (go_at_call 68; exact Calls.grew_of (HS.out _ _ _ _ _))))
          refine wpQuiet_nil ?_
          rintro _ ⟨x, rfl⟩
          go_wp2
          go_roundw
          case rel => exact ⟨j + 1, by omega, by go_num, by rw [hcl.out]; simp only [World.alloc_grew, World.grew_grew]; exact ⟨_, rfl⟩⟩
          case measure => simp [intOf]; omega
        · obtain rfl : j = n := by omega
          have hown' := ownsRow_below hown (w' := (wo.alloc (.cells #[.int .i64 (accHi (sumTo s l k j).1), .int .u64 (accLo (sumTo s l k j).1), .int .i64 (accHi (sumTo s l k j).2), .int .u64 (accLo (sumTo s l k j).2)] 37)).grew x) (by (repeat' (first | (with_reducible exact Below.refl _ _) | (with_reducible assumption) | (with_reducible refine Below.alloc ?_ ?_ _) | (with_reducible refine below_grew ?_ ?_ _) | (with_reducible refine Below.setCell ?_ ?_ _) | (with_reducible refine Below.drew ?_) | (with_reducible refine below_drewN ?_ _) | omega | (simp; done) | (simp; omega))))
          have hbo' : w.heap.size ≤ wo.heap.size := hbel.size
          go_wp2_with (at_builtin; refine wpList_append_one rfl _ _ 31 rfl w.heap.size 37 _ 4 32 Tryd.underlying31 bigInfo rfl (by decide) _ k _ rfl hown' _ [_, _, _, _] rfl ?hg rfl ?h1 ?h63 ?hby ?hba ?_; (case hg => simp; done); (case h1 => simp [Value.oneCell']; done); (case h63 => exact maxLen_le (by omega)); (case hby => omega); (case hba => simp; omega); intro v' w2 hown2 hbel2 _ _)
          go_roundw
          case rel => exact ⟨k + 1, by omega, by go_num, by rw [List.range_succ, List.map_append, List.flatMap_append]; exact hown2, (below_grew (hbel.alloc hbo' _) (by simp; omega) _).trans hbel2⟩
          case measure => simp [intOf]; omega
    · obtain rfl : k = n := by omega
      go_wp2
      go_ret
      refine ⟨_, rfl, ?_, hbel⟩
      unfold directF
      rw [Hn.out]
      exact hown
end Go.Proofs.YtcibajleknhklaaDoor
end

section
namespace Go.Proofs.YtcibajleknhklaaDoor
open Go.RowKit Go.BigFrame Go.Proofs.YtcibajleknhklaaDoorW.PrintWords Go.Proofs.YtcibajleknhklaaDoorW.PrintLast Go.Proofs.YtcibajleknhklaaDoorW.PrintMore
set_option linter.unusedSimpArgs false
set_option linter.unusedVariables false
theorem cell_blk {w w' : World} {b : Nat} (h : w'.heap[b]? = w.heap[b]?) (o : Nat) : w'.cell? ⟨b, o, none⟩ = w.cell? ⟨b, o, none⟩ := by unfold World.cell?; rw [h]
def In128 (z : Int) : Prop := -170141183460469231731687303715884105728 ≤ z ∧ z < 170141183460469231731687303715884105728
theorem accHi_in {z : Int} (h : In128 z) : accHi z = z / 18446744073709551616 := by
  obtain ⟨h1, h2⟩ := h
  unfold accHi wrap64; omega
theorem neg_any (x : Int) (w : World) : Calls Tryd.prog 108 #[accAgg x] w fun e w' => e = .returned (accAgg (-x)) ∧ Below w.heap.size w w' := by
  have hm := minus_any 0 x
  unfold accAgg at hm ⊢
  rw [show accHi 0 = 0 from by decide +kernel, show accLo 0 = 0 from by decide +kernel, Int.zero_sub] at hm
  have HM := Lib.hid hm
  clear hm
  go_enter Tryd.func108, Tryd.ntmps108
  go_wp2_with fail
  refine (HM.out _).mono ?_
  rintro e w' ⟨rfl, hb1⟩; obtain ⟨x1, rfl⟩ := below_as_grew hb1; clear hb1
  go_wp2_with fail
  refine bodyPost_ret (v := _) (by simp [results, Tryd.results108, go_sem]; rfl) rfl ⟨?_, ?_⟩
  · rfl
  · (repeat' (first | (with_reducible exact Below.refl _ _) | (with_reducible assumption) | (with_reducible refine Below.alloc ?_ ?_ _) | (with_reducible refine below_grew ?_ ?_ _) | (with_reducible refine Below.setCell ?_ ?_ _) | (with_reducible refine Below.drew ?_) | (with_reducible refine below_drewN ?_ _) | omega | (simp; done) | (simp; omega)))
def clamp32 (x : Int) : Int := min (max x (-2147483648)) 2147483647
theorem fixSat32 (x : Int) (w : World) : Calls Tryd.prog 94 #[.int .i64 x, .int .i64 32] w fun e w' => e = .returned (.int .i64 (clamp32 x)) ∧ Below w.heap.size w w' := by
  have e0 : min (max (32 : Int) 1) 63 = 32 := by decide
  have e1 : wrap64 (2 ^ 31) = 2147483648 := by decide +kernel
  have e2 : bits .xor .i64 (-1) 2147483647 = -2147483648 := by decide +kernel
  go_enter Tryd.func94, Tryd.ntmps94
  go_wp2
  go_ret
  exact ⟨by rfl, by (repeat' (first | (with_reducible exact Below.refl _ _) | (with_reducible assumption) | (with_reducible refine Below.alloc ?_ ?_ _) | (with_reducible refine below_grew ?_ ?_ _) | (with_reducible refine Below.setCell ?_ ?_ _) | (with_reducible refine Below.drew ?_) | (with_reducible refine below_drewN ?_ _) | omega | (simp; done) | (simp; omega)))⟩
theorem shr_split (z : Int) (s : Nat) (h : 64 ≤ s) : z / 2 ^ s = z / 18446744073709551616 / 2 ^ (s - 64) := by
  have e : (2 : Int) ^ s = 18446744073709551616 * 2 ^ (s - 64) := by
    conv => lhs; rw [show s = 64 + (s - 64) from by omega, Int.pow_add]
    rfl
  rw [e, ← Int.ediv_ediv_of_nonneg (by decide)]
theorem shr64 (x : Int) (h : In64 x) (k : Nat) : In64 (x / 2 ^ k) := by
  have hp : (0 : Int) < 2 ^ k := Int.pow_pos (by decide)
  obtain ⟨h1, h2⟩ := h
  constructor
  · refine Int.le_ediv_of_mul_le hp ?_
    have : (1 : Int) ≤ 2 ^ k := hp
    have := Int.mul_le_mul_of_nonneg_left this (show (0 : Int) ≤ 9223372036854775808 by decide)
    omega
  · refine Int.le_trans (Int.ediv_le_ediv hp h2) ?_
    exact Int.ediv_le_self _ (by decide)
theorem or_comm64 (a b : Int) : bits .or .u64 a b = bits .or .u64 b a := by
  unfold bits
  simp only [BitVec.or_comm]
theorem join_words (hi lo P Q : Int) (hP : 0 < P) (hQ : 0 < Q) (hPQ : P * Q = 18446744073709551616) (h0 : 0 ≤ lo) (h1 : lo < 18446744073709551616) :
    (hi * 18446744073709551616 + lo) / P = hi * Q + lo / P ∧ 0 ≤ lo / P ∧ lo / P < Q ∧ (hi * Q) % 18446744073709551616 = hi % P * Q ∧ (hi * Q + lo / P) % 18446744073709551616 = hi % P * Q + lo / P := by
  have hs0 : 0 ≤ lo / P := Int.ediv_nonneg h0 (by omega)
  have hs1 : lo / P < Q := Int.ediv_lt_of_lt_mul hP (by rw [Int.mul_comm, hPQ]; exact h1)
  have hr0 := Int.emod_nonneg hi (show P ≠ 0 by omega)
  have hr1 := Int.emod_lt_of_pos hi hP
  refine ⟨?_, hs0, hs1, ?_, ?_⟩
  · rw [← hPQ, show hi * (P * Q) + lo = lo + hi * Q * P from by rw [Int.mul_comm P Q, ← Int.mul_assoc, Int.add_comm], Int.add_mul_ediv_right _ _ (by omega), Int.add_comm]
  · rw [← hPQ, Int.mul_comm hi Q, Int.mul_comm P Q, Int.mul_emod_mul_of_pos _ _ hQ, Int.mul_comm]
  · have e : hi * Q + lo / P = (hi % P * Q + lo / P) + hi / P * (P * Q) := by
      have := Int.emod_add_mul_ediv hi P
      have e2 : hi * Q = (hi % P + P * (hi / P)) * Q := by rw [this]
      rw [e2, Int.add_mul, Int.mul_comm P (hi / P), Int.mul_assoc]
      omega
    rw [e, ← hPQ, Int.add_mul_emod_self_right]
    refine Int.emod_eq_of_lt (Int.add_nonneg (Int.mul_nonneg hr0 (by omega)) hs0) ?_
    have h2 : hi % P * Q ≤ (P - 1) * Q := Int.mul_le_mul_of_nonneg_right (by omega) (by omega)
    rw [Int.sub_mul] at h2
    omega
theorem pow_split (s : Nat) (h : ¬ 64 ≤ s) : (2 : Int) ^ s * 2 ^ (64 - s) = 18446744073709551616 := by
  rw [← Int.pow_add, show s + (64 - s) = 64 from by omega]; rfl
theorem shr_hi {z : Int} (hz : In128 z) (s : Nat) (h : ¬ 64 ≤ s) : accHi z / 2 ^ s = accHi (z / 2 ^ s) := by
  have hp : (0 : Int) < 2 ^ s := Int.pow_pos (by decide)
  have h128 : In128 (z / 2 ^ s) := by
    obtain ⟨h1, h2⟩ := hz
    constructor
    · refine Int.le_ediv_of_mul_le hp ?_
      have : (1 : Int) ≤ 2 ^ s := hp
      have := Int.mul_le_mul_of_nonneg_left this (show (0 : Int) ≤ 170141183460469231731687303715884105728 by decide)
      omega
    · by_cases h0 : 0 ≤ z
      · exact Int.lt_of_le_of_lt (Int.ediv_le_self _ h0) h2
      · have : z / 2 ^ s < 0 := Int.ediv_neg_of_neg_of_pos (by omega) hp
        omega
  rw [accHi_in hz, accHi_in h128, Int.ediv_ediv_of_nonneg (by decide), Int.ediv_ediv_of_nonneg (by omega), Int.mul_comm]
theorem shr_lo {z : Int} (hz : In128 z) (s : Nat) (hs : 0 < s) (h : ¬ 64 ≤ s) : bits .or .u64 (accLo z / 2 ^ s) (IntKind.u64.wrap (IntKind.u64.wrap (accHi z) * 2 ^ (64 - s))) = accLo (z / 2 ^ s) := by
  obtain ⟨l0, l1⟩ := accLo_bd z
  obtain ⟨e1, e2, e3, e4, e5⟩ := join_words (accHi z) (accLo z) (2 ^ s) (2 ^ (64 - s)) (Int.pow_pos (by decide)) (Int.pow_pos (by decide)) (pow_split s h) l0 (by omega)
  have ez : accHi z * 18446744073709551616 + accLo z = z := by rw [accHi_in hz]; unfold accLo; omega
  rw [ez] at e1
  have eh : IntKind.u64.wrap (IntKind.u64.wrap (accHi z) * 2 ^ (64 - s)) = accHi z % 2 ^ s * 2 ^ (64 - s) := by
    rw [IntKind.wrap_u64, IntKind.wrap_u64, Int.mul_emod, Int.emod_emod, ← Int.mul_emod]
    exact e4
  rw [eh]
  have h264 : (2 : Int) ^ 64 = 18446744073709551616 := by decide +kernel
  have hc : bits .or .u64 (accLo z / 2 ^ s) (accHi z % 2 ^ s * 2 ^ (64 - s)) = bits .or .u64 (accHi z % 2 ^ s * 2 ^ (64 - s)) (accLo z / 2 ^ s) := or_comm64 _ _
  have hQ : (0 : Int) < 2 ^ (64 - s) := Int.pow_pos (by decide)
  have hP : (0 : Int) < 2 ^ s := Int.pow_pos (by decide)
  have hr0 := Int.emod_nonneg (accHi z) (show (2 : Int) ^ s ≠ 0 by omega)
  have hr1 := Int.emod_lt_of_pos (accHi z) hP
  have hx1 : accHi z % 2 ^ s * 2 ^ (64 - s) + 2 ^ (64 - s) ≤ 18446744073709551616 := by
    have h2 : accHi z % 2 ^ s * 2 ^ (64 - s) ≤ (2 ^ s - 1) * 2 ^ (64 - s) := Int.mul_le_mul_of_nonneg_right (by omega) (by omega)
    rw [Int.sub_mul, pow_split s h] at h2
    omega
  rw [hc, bits_join .u64 64 (by decide) (fun n h0 h1 => by rw [IntKind.wrap_u64]; rw [h264] at h1; omega) (64 - s) _ _ (Int.mul_nonneg hr0 (by omega)) (Int.mul_emod_left _ _) (by rw [h264]; omega) e2 e3 (by rw [h264]; omega)]
  rw [← e5, ← e1]
  rfl
set_option maxHeartbeats 2000000 in
theorem shr_any (z : Int) (hz : In128 z) (s : Nat) (hs : 0 < s) (hs2 : s < 127) (w : World) : Calls Tryd.prog 132 #[accAgg z, .int .i64 s] w fun e w' => e = .returned (accAgg (z / 2 ^ s)) ∧ Below w.heap.size w w' := by
  have e0 : min (s : Int) 127 = (s : Int) := by omega
  unfold accAgg
  by_cases h64 : 64 ≤ s
  · have h64' : (64 : Int) ≤ (s : Int) := by omega
    obtain ⟨v, hv⟩ : ∃ v, z / 2 ^ s = v := ⟨_, rfl⟩
    have E : accHi z / 2 ^ (s - 64) = v := by rw [accHi_in hz, ← shr_split z s h64]; exact hv
    have hv64 : In64 v := by rw [← E]; exact shr64 _ (by rw [accHi_in hz]; obtain ⟨h1, h2⟩ := hz; unfold In64; omega) _
    have ho := of_any v hv64
    rw [hv]
    unfold accAgg at ho
    have HO := Lib.hid ho
    have HE := Lib.hid E
    clear ho E hv hv64 hz
    go_enter Tryd.func132, Tryd.ntmps132
    go_wp2_with fail
    rw [HE.out]
    refine (HO.out _).mono ?_
    rintro e w' ⟨rfl, hb1⟩; obtain ⟨x1, rfl⟩ := below_as_grew hb1; clear hb1
    go_wp2_with fail
    refine bodyPost_ret (v := _) (by simp [results, Tryd.results132, go_sem]; rfl) rfl ⟨?_, ?_⟩
    · rfl
    · (repeat' (first | (with_reducible exact Below.refl _ _) | (with_reducible assumption) | (with_reducible refine Below.alloc ?_ ?_ _) | (with_reducible refine below_grew ?_ ?_ _) | (with_reducible refine Below.setCell ?_ ?_ _) | (with_reducible refine Below.drew ?_) | (with_reducible refine below_drewN ?_ _) | omega | (simp; done) | (simp; omega)))
  · have h64' : ¬ (64 : Int) ≤ (s : Int) := by omega
    go_enter Tryd.func132, Tryd.ntmps132
    go_wp2_with fail
    first | refine wp_region_grew2 16 (by kernel_rfl) (by kernel_rfl) ?_ | refine wp_region_grew 16 (by kernel_rfl) (by kernel_rfl) ?_
    simp only [List.take_succ_cons, List.take_zero, List.drop_succ_cons, List.drop_zero]
    repeat (go_big_quiet_step (fail))
    refine wpQuiet_nil ?_
    rintro _ ⟨x, rfl⟩
    go_wp2_with fail
    refine bodyPost_ret (v := _) (by simp [results, Tryd.results132, go_sem]; rfl) rfl ⟨?_, ?_⟩
    · rw [shr_hi hz s h64, shr_lo hz s hs h64]
    · (repeat' (first | (with_reducible exact Below.refl _ _) | (with_reducible assumption) | (with_reducible refine Below.alloc ?_ ?_ _) | (with_reducible refine below_grew ?_ ?_ _) | (with_reducible refine Below.setCell ?_ ?_ _) | (with_reducible refine Below.drew ?_) | (with_reducible refine below_drewN ?_ _) | omega | (simp; done) | (simp; omega)))
/-- A quotient by a power of two, rounded. -/
def rnd (s : Nat) (z : Int) : Int := z / 2 ^ s + z / 2 ^ (s - 1) % 2
theorem small_words (b : Int) (h0 : 0 ≤ b) (h1 : b < 18446744073709551616) : accHi b = 0 ∧ accLo b = b := by
  unfold accHi accLo wrap64; omega
theorem small_bit (y : Int) : accHi (y % 2) = 0 ∧ accLo (y % 2) = y % 2 := small_words _ (by omega) (by omega)
theorem lo_odd (x : Int) : bits .and .u64 (accLo x) 1 = x % 2 := by
  obtain ⟨l0, l1⟩ := accLo_bd x
  have h264 : (2 : Int) ^ 64 = 18446744073709551616 := by decide +kernel
  have := bits_mask .u64 64 (by decide) (fun n h0 h1 => by rw [IntKind.wrap_u64]; rw [h264] at h1; omega) 1 (by decide) (accLo x) l0 (by rw [h264]; omega)
  rw [show (2 : Int) ^ 1 - 1 = 1 from by decide] at this
  rw [this]
  unfold accLo
  omega
theorem acc_lo_field (a b : Int) (w : World) : (Instr.field 35 (.agg #[.int .i64 a, .int .u64 b]) 1).run Tryd.prog w = .ok (.int .u64 b) w := by kernel_rfl
set_option maxHeartbeats 2000000 in
theorem round_any (z : Int) (hz : In128 z) (s : Nat) (hs : 1 < s) (hs2 : s < 127) (w : World) : Calls Tryd.prog 105 #[accAgg z, .int .i64 s] w fun e w' => e = .returned (accAgg (rnd s z)) ∧ Below w.heap.size w w' := by
  have e0 : min (s : Int) 127 = (s : Int) := by omega
  have e1 : ¬ (s : Int) = 0 := by omega
  have h1 := shr_any z hz s (by omega) hs2
  have h2 := shr_any z hz (s - 1) (by omega) (by omega)
  rw [show ((s - 1 : Nat) : Int) = (s : Int) - 1 from by omega] at h2
  have h3 := plus_any (z / 2 ^ s) (z / 2 ^ (s - 1) % 2)
  obtain ⟨b1, b2⟩ := small_bit (z / 2 ^ (s - 1))
  unfold accAgg at h1 h2 h3 ⊢
  rw [b1, b2, ← lo_odd, show z / 2 ^ s + bits .and .u64 (accLo (z / 2 ^ (s - 1))) 1 = rnd s z from by rw [lo_odd]; rfl] at h3
  have H1 := Lib.hid h1
  have H2 := Lib.hid h2
  have H3 := Lib.hid h3
  clear h1 h2 h3 b1 b2 hz
  obtain ⟨u, hu⟩ : ∃ u : Int, (s : Int) - 1 = u := ⟨_, rfl⟩
  rw [hu] at H2
  have HU := Lib.hid hu
  clear hu
  have hfd := acc_lo_field
  have hw : ((s : Int) - 1 + 9223372036854775808) % 18446744073709551616 - 9223372036854775808 = (s : Int) - 1 := by omega
  go_enter Tryd.func105, Tryd.ntmps105
  go_wp2_with fail
  first | refine wp_region_grew2 11 (by kernel_rfl) (by kernel_rfl) ?_ | refine wp_region_grew 11 (by kernel_rfl) (by kernel_rfl) ?_
  simp only [List.take_succ_cons, List.take_zero, List.drop_succ_cons, List.drop_zero]
  repeat (go_big_quiet_step (first | (go_at_call 132; first | (rw [HU.out]; exact Calls.grew_of (H2.out _)) | exact Calls.grew_of (H1.out _)) | (go_at_call 109; exact Calls.grew_of (H3.out _))))
  refine wpQuiet_nil ?_
  rintro _ ⟨x, rfl⟩
  go_wp2_with fail
  refine bodyPost_ret (v := _) (by simp [results, Tryd.results105, go_sem]; rfl) rfl ⟨?_, ?_⟩
  · rfl
  · (repeat' (first | (with_reducible exact Below.refl _ _) | (with_reducible assumption) | (with_reducible refine Below.alloc ?_ ?_ _) | (with_reducible refine below_grew ?_ ?_ _) | (with_reducible refine Below.setCell ?_ ?_ _) | (with_reducible refine Below.drew ?_) | (with_reducible refine below_drewN ?_ _) | omega | (simp; done) | (simp; omega)))
set_option maxHeartbeats 2000000 in
theorem int_any (z : Int) (hz : In128 z) (w : World) : Calls Tryd.prog 133 #[accAgg z] w fun e w' => (In64 z → e = .returned (.tuple #[.int .i64 z, .bool true])) ∧ (¬ In64 z → e = .returned (.tuple #[.int .i64 0, .bool false])) ∧ Below w.heap.size w w' := by
  have hv64 : In64 (wrap64 (accLo z)) := by unfold In64 wrap64; omega
  have ho := of_any (wrap64 (accLo z)) hv64
  unfold accAgg at ho ⊢
  have HO := Lib.hid ho
  clear ho hv64
  by_cases h64 : In64 z
  · have ew : wrap64 (accLo z) = z := by unfold In64 at h64; unfold accLo wrap64; omega
    have EW := Lib.hid ew
    rw [ew] at HO
    clear ew
    go_enter Tryd.func133, Tryd.ntmps133
    go_wp2_with fail
    first | refine wp_region_grew_all2 (by kernel_rfl) (by kernel_rfl) ?_ | refine wp_region_grew_all (by kernel_rfl) (by kernel_rfl) ?_
    repeat (go_big_quiet_step (first | (go_at_call 59; rw [EW.out]; exact Calls.grew_of (HO.out _))))
    refine wpQuiet_nil ?_
    rintro _ ⟨x, rfl⟩
    go_wp2_with fail
    rw [EW.out]
    go_ret2
    exact ⟨fun _ => rfl, fun h => absurd h64 h, by (repeat' (first | (with_reducible exact Below.refl _ _) | (with_reducible assumption) | (with_reducible refine Below.alloc ?_ ?_ _) | (with_reducible refine below_grew ?_ ?_ _) | (with_reducible refine Below.setCell ?_ ?_ _) | (with_reducible refine Below.drew ?_) | (with_reducible refine below_drewN ?_ _) | omega | (simp; done) | (simp; omega)))⟩
  · have hne : ¬ accHi (wrap64 (accLo z)) = accHi z := by unfold In64 at h64; unfold In128 at hz; unfold accHi accLo wrap64; omega
    clear hz
    go_enter Tryd.func133, Tryd.ntmps133
    go_wp2_with fail
    first | refine wp_region_grew_all2 (by kernel_rfl) (by kernel_rfl) ?_ | refine wp_region_grew_all (by kernel_rfl) (by kernel_rfl) ?_
    repeat (go_big_quiet_step (first | (go_at_call 59; exact Calls.grew_of (HO.out _))))
    refine wpQuiet_nil ?_
    rintro _ ⟨x, rfl⟩
    go_wp2_with fail
    go_ret2
    exact ⟨fun h => absurd h h64, fun _ => rfl, by (repeat' (first | (with_reducible exact Below.refl _ _) | (with_reducible assumption) | (with_reducible refine Below.alloc ?_ ?_ _) | (with_reducible refine below_grew ?_ ?_ _) | (with_reducible refine Below.setCell ?_ ?_ _) | (with_reducible refine Below.drew ?_) | (with_reducible refine below_drewN ?_ _) | omega | (simp; done) | (simp; omega)))⟩
set_option maxHeartbeats 2000000 in
theorem sat_any (z : Int) (hz : In128 z) (w : World) : Calls Tryd.prog 107 #[accAgg z, .int .i64 32] w fun e w' => e = .returned (.int .i64 (clamp32 z)) ∧ Below w.heap.size w w' := by
  have hi := int_any z hz
  have HF := Lib.hid fixSat32
  have hneg : z < 0 ↔ accHi z < 0 := by rw [accHi_in hz]; omega
  unfold accAgg at hi ⊢
  have HI := Lib.hid hi
  clear hi hz
  by_cases h64 : In64 z
  · clear hneg
    go_enter Tryd.func107, Tryd.ntmps107
    go_wp2_with fail
    refine (HI.out _).mono ?_
    rintro e w1 ⟨h1, -, hb⟩
    obtain rfl := h1 h64
    have HB := Lib.hid (show Below w.heap.size w w1 from Below.trans (by (repeat' (first | (with_reducible exact Below.refl _ _) | (with_reducible assumption) | (with_reducible refine Below.alloc ?_ ?_ _) | (with_reducible refine below_grew ?_ ?_ _) | (with_reducible refine Below.setCell ?_ ?_ _) | (with_reducible refine Below.drew ?_) | (with_reducible refine below_drewN ?_ _) | omega | (simp; done) | (simp; omega)))) (hb.mono (by simp)))
    clear h1 hb
    go_wp2_with fail
    refine (HF.out _ _).mono ?_
    rintro e w2 ⟨rfl, hb⟩
    have HB2 := Lib.hid (HB.out.trans (hb.mono HB.out.size))
    clear hb
    go_wp2_with fail
    go_ret
    exact ⟨rfl, HB2.out⟩
  · have h64' := h64
    unfold In64 at h64'
    by_cases h0 : accHi z < 0
    · have e : clamp32 z = clamp32 (-9223372036854775808) := by unfold clamp32; omega
      rw [e]
      clear h64' e
      go_enter Tryd.func107, Tryd.ntmps107
      go_wp2_with fail
      refine (HI.out _).mono ?_
      rintro e w1 ⟨-, h1, hb⟩
      obtain rfl := h1 h64
      have hc := cell_blk (hb.block w.heap.size (by simp)) 0
      rw [(block_facts (alloc_at w _)).1] at hc
      have hlt : w.heap.size < w1.heap.size := Nat.lt_of_lt_of_le (by simp) hb.size
      have HB := Lib.hid (show Below w.heap.size w w1 from Below.trans (by (repeat' (first | (with_reducible exact Below.refl _ _) | (with_reducible assumption) | (with_reducible refine Below.alloc ?_ ?_ _) | (with_reducible refine below_grew ?_ ?_ _) | (with_reducible refine Below.setCell ?_ ?_ _) | (with_reducible refine Below.drew ?_) | (with_reducible refine below_drewN ?_ _) | omega | (simp; done) | (simp; omega)))) (hb.mono (by simp)))
      clear h1 hb
      go_wp2_with fail
      refine (HF.out _ _).mono ?_
      rintro e w2 ⟨rfl, hb⟩
      have HB2 := Lib.hid (HB.out.trans (hb.mono HB.out.size))
      clear hb
      go_wp2_with fail
      go_ret
      exact ⟨rfl, HB2.out⟩
    · have e : clamp32 z = clamp32 9223372036854775807 := by unfold clamp32; omega
      rw [e]
      clear h64' e
      go_enter Tryd.func107, Tryd.ntmps107
      go_wp2_with fail
      refine (HI.out _).mono ?_
      rintro e w1 ⟨-, h1, hb⟩
      obtain rfl := h1 h64
      have hc := cell_blk (hb.block w.heap.size (by simp)) 0
      rw [(block_facts (alloc_at w _)).1] at hc
      have hlt : w.heap.size < w1.heap.size := Nat.lt_of_lt_of_le (by simp) hb.size
      have HB := Lib.hid (show Below w.heap.size w w1 from Below.trans (by (repeat' (first | (with_reducible exact Below.refl _ _) | (with_reducible assumption) | (with_reducible refine Below.alloc ?_ ?_ _) | (with_reducible refine below_grew ?_ ?_ _) | (with_reducible refine Below.setCell ?_ ?_ _) | (with_reducible refine Below.drew ?_) | (with_reducible refine below_drewN ?_ _) | omega | (simp; done) | (simp; omega)))) (hb.mono (by simp)))
      clear h1 hb
      go_wp2_with fail
      refine (HF.out _ _).mono ?_
      rintro e w2 ⟨rfl, hb⟩
      have HB2 := Lib.hid (HB.out.trans (hb.mono HB.out.size))
      clear hb
      go_wp2_with fail
      go_ret
      exact ⟨rfl, HB2.out⟩
end Go.Proofs.YtcibajleknhklaaDoor
end

section
namespace Go.Proofs.YtcibajleknhklaaDoor
open Go.RowKit
set_option linter.unusedVariables false
variable {V V' : Type}
/-- A number of s bits, turned about. -/
def revF : Nat → Nat → Nat
  | 0, _ => 0
  | s + 1, i => i % 2 * 2 ^ s + revF s (i / 2)
end Go.Proofs.YtcibajleknhklaaDoor
end

section
namespace Go.Proofs.YtcibajleknhklaaDoor
open Go.RowKit Go.BigFrame Go.Proofs.YtcibajleknhklaaDoorW.PrintWords Go.Proofs.YtcibajleknhklaaDoorW.PrintLast Go.Proofs.YtcibajleknhklaaDoorW.PrintMore
set_option linter.unusedSimpArgs false
set_option linter.unusedVariables false
set_option maxHeartbeats 2000000 in
theorem bigTimes_any (a b c d : Int) (hc : In64 c) (hd : In64 d) (w : World) :
    Calls Tryd.prog 102 #[bigAgg a b, pairAgg (c, d)] w fun e w' => e = .returned (bigAgg (a * c - b * d) (a * d + b * c)) ∧ Below w.heap.size w w' := by
  have m1 := accTimes_any
  have p1 := plus_any
  have p2 := minus_any
  unfold accAgg at m1 p1 p2
  have M1 := Lib.hid m1
  have P1 := Lib.hid p1
  have P2 := Lib.hid p2
  clear m1 p1 p2
  unfold bigAgg pairAgg
  go_enter Tryd.func102, Tryd.ntmps102
  go_wp2
  first | refine wp_region_grew2 23 (by kernel_rfl) (by kernel_rfl) ?_ | refine wp_region_grew 23 (by kernel_rfl) (by kernel_rfl) ?_
  simp only [List.take_succ_cons, List.take_zero, List.drop_succ_cons, List.drop_zero]
  repeat (go_big_quiet_step (first | (go_at_call 131; refine Calls.grew_of (M1.out _ _ ?_ _) <;> assumption) | (go_at_call 109; exact Calls.grew_of (P1.out _ _ _)) | (go_at_call 111; exact Calls.grew_of (P2.out _ _ _))))
  refine wpQuiet_nil ?_
  rintro _ ⟨x, rfl⟩
  go_wp2
  refine bodyPost_ret (v := _) (by simp [results, Tryd.results102, go_sem]; rfl) rfl ⟨?_, ?_⟩
  · rfl
  · (repeat' (first | (with_reducible exact Below.refl _ _) | (with_reducible assumption) | (with_reducible refine Below.alloc ?_ ?_ _) | (with_reducible refine below_grew ?_ ?_ _) | (with_reducible refine Below.setCell ?_ ?_ _) | (with_reducible refine Below.drew ?_) | (with_reducible refine below_drewN ?_ _) | omega | (simp; done) | (simp; omega)))
def kB (j : Nat) : IntKind := if j % 2 = 0 then .i64 else .u64
def bigF (X : Nat → Int × Int) (j : Nat) : Int := if j % 4 = 0 then accHi (X (j / 4)).1 else if j % 4 = 1 then accLo (X (j / 4)).1 else if j % 4 = 2 then accHi (X (j / 4)).2 else accLo (X (j / 4)).2
abbrev BigT := 37
/-- A block of n wide pairs. -/
abbrev BigW (g n : Nat) (X : Nat → Int × Int) (w : World) : Prop := Bx g BigT kB (n * 4) (bigF X) w
end Go.Proofs.YtcibajleknhklaaDoor
end

section
namespace Go.Proofs.YtcibajleknhklaaDoor
open Go.RowKit Go.BigFrame Go.Proofs.YtcibajleknhklaaDoorW.PrintWords Go.Proofs.YtcibajleknhklaaDoorW.PrintLast Go.Proofs.YtcibajleknhklaaDoorW.PrintMore
set_option linter.unusedSimpArgs false
set_option linter.unusedVariables false
/-- Block g has been written, and blocks have been made. -/
structure Upd (g : Nat) (w w' : World) : Prop where
  os : w'.os = w.os
  tape : w'.tape = w.tape
  output : w'.output = w.output
  size : w.heap.size ≤ w'.heap.size
  block : ∀ k, k < w.heap.size → k ≠ g → w'.heap[k]? = w.heap[k]?
theorem Upd.refl (g : Nat) (w : World) : Upd g w w := ⟨rfl, rfl, rfl, Nat.le_refl _, fun _ _ _ => rfl⟩
theorem Upd.trans {g : Nat} {a b c : World} (h : Upd g a b) (k : Upd g b c) : Upd g a c :=
  ⟨k.os.trans h.os, k.tape.trans h.tape, k.output.trans h.output, Nat.le_trans h.size k.size, fun i hi hne => (k.block i (Nat.lt_of_lt_of_le hi h.size) hne).trans (h.block i hi hne)⟩
theorem Upd.of_below {g : Nat} {a b : World} (h : Below a.heap.size a b) : Upd g a b := ⟨h.os, h.tape, h.output, h.size, fun k hk _ => h.block k hk⟩
theorem Upd.of_only {g : Nat} {a b : World} (h : Only g a b) : Upd g a b := ⟨h.os, h.tape, h.output, Nat.le_of_eq h.size.symm, fun k _ hne => h.block k hne⟩
/-- The turns of a plan. -/
structure TurnsW (pb tb m tc g : Nat) (T : Nat → Int × Int) (w : World) : Prop where
  pbn : pb ≠ g
  tbn : tb ≠ g
  pbl : pb < w.heap.size
  tbl : tb < w.heap.size
  sl : w.cell? ⟨pb, 1, none⟩ = some (.slice (some ⟨tb, 0, none⟩) m tc)
  at0 : ∀ k, k < m → w.cell? ⟨tb, k * 2, none⟩ = some (.int .i64 (T k).1) ∧ w.cell? ⟨tb, k * 2 + 1, none⟩ = some (.int .i64 (T k).2)
theorem cell_of_block {w w' : World} {b : Nat} (h : w'.heap[b]? = w.heap[b]?) (o : Nat) : w'.cell? ⟨b, o, none⟩ = w.cell? ⟨b, o, none⟩ := by unfold World.cell?; rw [h]
theorem TurnsW.upd {pb tb m tc g : Nat} {T : Nat → Int × Int} {w w' : World} (h : TurnsW pb tb m tc g T w) (hu : Upd g w w') : TurnsW pb tb m tc g T w' :=
  ⟨h.pbn, h.tbn, Nat.lt_of_lt_of_le h.pbl hu.size, Nat.lt_of_lt_of_le h.tbl hu.size, (cell_of_block (hu.block _ h.pbl h.pbn) 1).trans h.sl,
    fun k hk => ⟨(cell_of_block (hu.block _ h.tbl h.tbn) _).trans (h.at0 k hk).1, (cell_of_block (hu.block _ h.tbl h.tbn) _).trans (h.at0 k hk).2⟩⟩
/-- One step of the last region: block g keeps its content, or comes to hold F1. -/
structure TG (g N : Nat) (F F1 : Nat → Int) (W W' : World) : Prop where
  upd : Upd g W W'
  keep : Bx g BigT kB N F W → Bx g BigT kB N F W' ∨ Bx g BigT kB N F1 W'
  new : Bx g BigT kB N F1 W → Bx g BigT kB N F1 W'
theorem TG.of_below {g N : Nat} {F F1 : Nat → Int} {W W' : World} (h : Below W.heap.size W W') : TG g N F F1 W W' :=
  ⟨Upd.of_below h, fun hb => .inl (hb.keep h), fun hb => hb.keep h⟩
abbrev CG (g N : Nat) (F F1 : Nat → Int) (Y W : World) : Prop := Upd g Y W ∧ (Bx g BigT kB N F W ∨ Bx g BigT kB N F1 W)
theorem CG.step {g N : Nat} {F F1 : Nat → Int} {Y W W' : World} (h : CG g N F F1 Y W) (t : TG g N F F1 W W') : CG g N F F1 Y W' :=
  ⟨h.1.trans t.upd, h.2.elim t.keep (fun h => .inr (t.new h))⟩
end Go.Proofs.YtcibajleknhklaaDoor
end

section
namespace Go.Proofs.YtcibajleknhklaaDoor
open Go.RowKit Go.BigFrame Go.Proofs.YtcibajleknhklaaDoorW.PrintWords Go.Proofs.YtcibajleknhklaaDoorW.PrintLast Go.Proofs.YtcibajleknhklaaDoorW.PrintMore
open PFftOrders RFftOrders
set_option linter.unusedSimpArgs false
set_option linter.unusedVariables false
def kI (j : Nat) : IntKind := .i64
/-- 'make([]T, n)': the block as it stands. -/
theorem make_block {P : Program} (w : World) {ops : Array Oper} {rest : List Oper} {o : Oper} {a : Act} {Q : Exit → Act → World → Prop}
    (hg : o.guard = none) (l c : Operand) (t : TypeId) (hop : o.op = Op.makeSlice t l c)
    (e : TypeId) (z : Value) (size bytes : Nat) (h1 : P.underlying t = some (.slice e)) (hi : (P.info? e).map (fun i => (i.zero, i.size, i.bytes)) = some (some z, size, bytes))
    (n : Nat) (hl : a.eval l = .int .i64 (n : Int)) (hc : a.eval c = .int .i64 (n : Int)) (b2 : bytes * n ≤ 281474976710656) (hn : n ≤ 1000000) (k : Nat → IntKind) (hz : ∀ i, z.cells[i % z.cells.size]! = .int (k i) 0)
    (hK : wpList P ops Q rest (a.put o.dst (.slice (some ⟨w.heap.size, 0, none⟩) n n)) (w.alloc (.cells (ag k (n * size) fun _ => 0) e))) :
    wpList P ops Q (o :: rest) a w := by
  refine wpList_plain hg fun K hK' => ?_
  obtain ⟨i, h2, h3, h4, h5⟩ := info_parts hi
  have hrun := run_make (P := P) w t e i z h1 h2 h3 .i64 .i64 n n (by omega) (Int.le_refl _) (by rw [h5, ← Int.natCast_mul]; omega) (by omega)
  have em : madeCells z.cells (n * size) = ag k (n * size) fun _ => 0 := by
    unfold madeCells ag
    apply Array.ext'
    simp only [Array.toList_map, Array.toList_range]
    exact List.map_congr_left fun i _ => hz i
  rw [h4, Int.toNat_natCast, em] at hrun
  unfold Oper.wp
  simp [execOp, hop, hl, hc, hrun, Result.andThen]
  exact hK' _ _ hK
end Go.Proofs.YtcibajleknhklaaDoor
end

section
namespace Go.Proofs.YtcibajleknhklaaDoor
open Go.RowKit Go.BigFrame Go.Proofs.YtcibajleknhklaaDoorW.PrintWords Go.Proofs.YtcibajleknhklaaDoorW.PrintLast Go.Proofs.YtcibajleknhklaaDoorW.PrintMore
set_option linter.unusedSimpArgs false
set_option linter.unusedVariables false
/-- Blocks below B stay; of the others one alone may be written, and rows that were begun as tn tells stay rows. -/
structure AT (B : Nat) (e : TypeId) (sz : Nat) (g : Option Nat) (tn : Nat → List Value) (m : Nat) (W W' : World) : Prop where
  below : Below B W W'
  grow : W.grownBy W' g
  keep : ∀ v j, j ≤ m → W.ownsRow B e sz v j (tn j) → W'.ownsRow B e sz v j (tn j)
theorem AT.of_below {B e sz g tn m} {W W' : World} (h : Below W.heap.size W W') (hB : B ≤ W.heap.size) : AT B e sz g tn m W W' :=
  ⟨h.mono hB, ⟨h.os, h.tape, h.output, h.size, fun k hk _ => h.block k hk⟩, fun _ _ _ ho => ownsRow_below ho h⟩
theorem AT.trans {B e sz g tn m} {W W1 W2 : World} (h : AT B e sz g tn m W W1) (k : AT B e sz g tn m W1 W2) : AT B e sz g tn m W W2 :=
  ⟨h.below.trans k.below, ⟨k.grow.os.trans h.grow.os, k.grow.tape.trans h.grow.tape, k.grow.output.trans h.grow.output, Nat.le_trans h.grow.size k.grow.size,
    fun i hi hg => (k.grow.block i (Nat.lt_of_lt_of_le hi h.grow.size) hg).trans (h.grow.block i hi hg)⟩, fun v j hj ho => k.keep v j hj (h.keep v j hj ho)⟩
end Go.Proofs.YtcibajleknhklaaDoor
end

section
namespace Go.Proofs.YtcibajleknhklaaDoor
open Go.RowKit Go.BigFrame Go.Proofs.YtcibajleknhklaaDoorW.PrintWords Go.Proofs.YtcibajleknhklaaDoorW.PrintLast Go.Proofs.YtcibajleknhklaaDoorW.PrintMore
open PFftOrders RFftOrders
set_option linter.unusedSimpArgs false
set_option linter.unusedVariables false
def pairCells (p : Int × Int) : List Value := [.int .i64 p.1, .int .i64 p.2]
def turnsTo (n k : Nat) : List Value := ((List.range k).map fun i : Nat => turnF ((i : Int) * 256 / (n : Int))).flatMap pairCells
theorem pairInfo : (Tryd.prog.info? 49).map (fun i => (i.zero, i.size, i.bytes)) = some (some (.agg #[.int .i64 0, .int .i64 0]), 2, 16) := by kernel_rfl
end Go.Proofs.YtcibajleknhklaaDoor
end

section
namespace Go.Proofs.YtcibajleknhklaaDoor
open Go.RowKit Go.BigFrame Go.Proofs.YtcibajleknhklaaDoorW.PrintWords Go.Proofs.YtcibajleknhklaaDoorW.PrintLast Go.Proofs.YtcibajleknhklaaDoorW.PrintMore
open PFftOrders RFftOrders
set_option linter.unusedSimpArgs false
set_option linter.unusedVariables false
/-- A plan: its struct at pb, its order at ob, its turns in the row tv. -/
structure PlanR (pb ob : Nat) (tv : Value) (s : Nat) (w : World) : Prop where
  ne : pb ≠ ob
  st : w.heap[pb]? = some (.cells #[.slice (some ⟨ob, 0, none⟩) (2 ^ s) (2 ^ s), tv] 130 (0, 0))
  ord : Bx ob 3 kI (2 ^ s) (fun j => (revF s j : Int)) w
  own : w.ownsRow 0 49 2 tv (2 ^ s / 2) (turnsTo (2 ^ s) (2 ^ s / 2))
theorem PlanR.keep {pb ob s : Nat} {tv : Value} {w w' : World} (h : PlanR pb ob tv s w) (hb : Below w.heap.size w w') : PlanR pb ob tv s w' :=
  ⟨h.ne, (hb.block pb (block_facts h.st).2.2).trans h.st, h.ord.keep hb, ownsRow_below h.own hb⟩
theorem PlanR.upd {pb ob s g : Nat} {tv : Value} {w w' : World} (h : PlanR pb ob tv s w) (hu : Upd g w w') (h1 : pb ≠ g) (h2 : ob ≠ g) (h3 : some g ≠ tv.ownBlock) : PlanR pb ob tv s w' := by
  refine ⟨h.ne, (hu.block pb (block_facts h.st).2.2 h1).trans h.st, (hu.block ob (block_facts h.ord).2.2 h2).trans h.ord, ?_⟩
  obtain ⟨a, b | ⟨g', cap, cur, b1, b2, b3, b4⟩⟩ := h.own
  · exact ⟨a, .inl b⟩
  · exact ⟨a, .inr ⟨g', cap, cur, b1, b2, (hu.block g' (Array.getElem?_eq_some_iff.1 b3).1 (fun e => h3 (by rw [b1, e]; rfl))).trans b3, b4⟩⟩
end Go.Proofs.YtcibajleknhklaaDoor
end

section
namespace Go.Proofs.YtcibajleknhklaaDoor
open Go.RowKit Go.BigFrame Go.Proofs.YtcibajleknhklaaDoorW.PrintWords Go.Proofs.YtcibajleknhklaaDoorW.PrintLast Go.Proofs.YtcibajleknhklaaDoorW.PrintMore
set_option linter.unusedSimpArgs false
set_option linter.unusedVariables false
theorem own_cells {w : World} {base : Nat} {e : TypeId} {size n : Nat} {v : Value} {xs : List Value} (h : w.ownsRow base e size v n xs) (hn : 0 < n) :
    ∃ g c, v = .slice (some ⟨g, 0, none⟩) n c ∧ g < w.heap.size ∧ base ≤ g ∧ ∀ j, j < n * size → w.cell? ⟨g, j, none⟩ = xs[j]? := by
  obtain ⟨h1, h2⟩ := h
  rcases h2 with ⟨_, h2⟩ | ⟨g, cap, cur, hv, hg, hh, hc1, hc2, hc3, hc4⟩
  · omega
  · refine ⟨g, cap, hv, (Array.getElem?_eq_some_iff.1 hh).1, hg, fun j hj => ?_⟩
    rw [cell_of_row w g j cur e _ hh, ← hc4, List.getElem?_take, if_pos hj]
    simp
theorem bigs_at (f : Nat → Int × Int) : ∀ n j i, j < n → i < 4 → (((List.range n).map f).flatMap bigCells)[j * 4 + i]? = (bigCells (f j))[i]?
  | 0, j, i, h, _ => absurd h (by omega)
  | n + 1, j, i, h, hi => by
    have hl : ∀ m, (((List.range m).map f).flatMap bigCells).length = m * 4 := fun m => by
      induction m with
      | zero => rfl
      | succ m ih => rw [List.range_succ, List.map_append, List.flatMap_append, List.length_append, ih]; simp [bigCells]; omega
    rw [List.range_succ, List.map_append, List.flatMap_append]
    by_cases e : j < n
    · rw [List.getElem?_append_left (by rw [hl]; omega)]
      exact bigs_at f n j i e hi
    · obtain rfl : j = n := by omega
      rw [List.getElem?_append_right (by rw [hl]; omega), hl]
      simp [show j * 4 + i - j * 4 = i by omega]
end Go.Proofs.YtcibajleknhklaaDoor
end

