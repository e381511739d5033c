/-
  Small laws for the walks of this seat: a world that has grown, and a region whose order is drawn, whose calls make memory and which ends in one store.
-/
import Derived.Deep.Quiet
import Derived.StillTail
import Derived.BigQuiet
import Derived.Below
import Derived.WalkKit
import Derived.WalkLawsBesides
import Derived.Lib.Hide
import Derived.Carry
import Derived.IntWalk
import Derived.Maps.AppendAt
import Derived.OwnWalk
import Derived.KernelRfl
namespace Go
open Go.RowKit

/-- Blocks more, and another count of draws. -/
structure Grown.By where
  objs : Array Obj
  drawn : Nat
instance : Inhabited Grown.By := ⟨⟨#[], 0⟩⟩
/-- 'w' with blocks more, and another count of draws. -/
def World.grew (w : World) (x : Grown.By) : World := { w with heap := w.heap ++ x.objs, drawn := x.drawn }

section
variable (w : World) (x y : Grown.By)
theorem World.grew_block (k : Nat) (h : k < w.heap.size) : (w.grew x).heap[k]? = w.heap[k]? := by
  show (w.heap ++ x.objs)[k]? = _
  rw [Array.getElem?_append_left h]
@[simp, go_sem] theorem World.size_grew : (w.grew x).heap.size = w.heap.size + x.objs.size := by
  show (w.heap ++ x.objs).size = _
  simp
@[go_sem] theorem World.grew_grew : (w.grew x).grew y = w.grew ⟨x.objs ++ y.objs, y.drawn⟩ := by
  unfold World.grew
  simp [Array.append_assoc]
@[go_sem] theorem World.drew_grew : (w.grew x).drew = w.grew ⟨x.objs, x.drawn + 1⟩ := rfl
@[go_sem] theorem World.grew_drew : w.drew.grew x = w.grew x := rfl
@[go_sem] theorem World.grew_drewN (n : Nat) : (w.drewN n).grew x = w.grew x := rfl
@[go_sem] theorem World.drewN_grew (n : Nat) : (w.grew x).drewN n = w.grew ⟨x.objs, x.drawn + n⟩ := rfl
@[go_sem] theorem World.cell?_grew (n i : Nat) (s : Option Nat) (hn : n < w.heap.size) : (w.grew x).cell? ⟨n, i, s⟩ = w.cell? ⟨n, i, s⟩ := by
  unfold World.cell?
  rw [World.grew_block w x n hn]
@[go_sem] theorem World.frozen?_grew (n i : Nat) (s : Option Nat) (hn : n < w.heap.size) : (w.grew x).frozen? ⟨n, i, s⟩ = w.frozen? ⟨n, i, s⟩ := by
  unfold World.frozen?
  rw [World.grew_block w x n hn]
@[go_sem] theorem World.shape?_grew (n : Nat) (hn : n < w.heap.size) : (w.grew x).shape? n = w.shape? n := by
  unfold World.shape?
  rw [World.grew_block w x n hn]
@[go_sem] theorem World.setCell_grew (n i : Nat) (s : Option Nat) (v : Value) (hn : n < w.heap.size) : (w.grew x).setCell ⟨n, i, s⟩ v = (w.setCell ⟨n, i, s⟩ v).grew x := by
  unfold World.setCell World.grew
  congr 1
  apply Array.ext_getElem?
  intro k
  simp only [Array.getElem?_modify, Array.getElem?_append, Array.size_modify]
  by_cases hk : k < w.heap.size
  · simp [hk]
  · simp [hk]
    intro h; omega
@[go_sem] theorem World.heap_grew (k : Nat) (hk : k < w.heap.size) : (w.grew x).heap[k]? = w.heap[k]? := World.grew_block w x k hk
@[simp] theorem World.os_grew : (w.grew x).os = w.os := rfl
@[simp] theorem World.tape_grew : (w.grew x).tape = w.tape := rfl
end

/-! For a block's number below a size. -/
@[go_sem] theorem lt_add_of_lt1 (a b c0 : Nat) (h : a < b) : (a < b + c0) = True := eq_true (by omega)
@[go_sem] theorem le_add_of_lt1 (a b c0 : Nat) (h : a < b) : (a ≤ b + c0) = True := eq_true (by omega)
@[go_sem] theorem ne_add_of_lt1 (a b c0 : Nat) (h : a < b) : (a = b + c0) = False := eq_false (by omega)
@[go_sem] theorem lt_add_of_lt2 (a b c0 c1 : Nat) (h : a < b) : (a < b + c0 + c1) = True := eq_true (by omega)
@[go_sem] theorem le_add_of_lt2 (a b c0 c1 : Nat) (h : a < b) : (a ≤ b + c0 + c1) = True := eq_true (by omega)
@[go_sem] theorem ne_add_of_lt2 (a b c0 c1 : Nat) (h : a < b) : (a = b + c0 + c1) = False := eq_false (by omega)
@[go_sem] theorem lt_add_of_lt3 (a b c0 c1 c2 : Nat) (h : a < b) : (a < b + c0 + c1 + c2) = True := eq_true (by omega)
@[go_sem] theorem le_add_of_lt3 (a b c0 c1 c2 : Nat) (h : a < b) : (a ≤ b + c0 + c1 + c2) = True := eq_true (by omega)
@[go_sem] theorem ne_add_of_lt3 (a b c0 c1 c2 : Nat) (h : a < b) : (a = b + c0 + c1 + c2) = False := eq_false (by omega)
@[go_sem] theorem lt_add_of_lt4 (a b c0 c1 c2 c3 : Nat) (h : a < b) : (a < b + c0 + c1 + c2 + c3) = True := eq_true (by omega)
@[go_sem] theorem le_add_of_lt4 (a b c0 c1 c2 c3 : Nat) (h : a < b) : (a ≤ b + c0 + c1 + c2 + c3) = True := eq_true (by omega)
@[go_sem] theorem ne_add_of_lt4 (a b c0 c1 c2 c3 : Nat) (h : a < b) : (a = b + c0 + c1 + c2 + c3) = False := eq_false (by omega)
@[go_sem] theorem lt_add_of_lt5 (a b c0 c1 c2 c3 c4 : Nat) (h : a < b) : (a < b + c0 + c1 + c2 + c3 + c4) = True := eq_true (by omega)
@[go_sem] theorem le_add_of_lt5 (a b c0 c1 c2 c3 c4 : Nat) (h : a < b) : (a ≤ b + c0 + c1 + c2 + c3 + c4) = True := eq_true (by omega)
@[go_sem] theorem ne_add_of_lt5 (a b c0 c1 c2 c3 c4 : Nat) (h : a < b) : (a = b + c0 + c1 + c2 + c3 + c4) = False := eq_false (by omega)
@[go_sem] theorem le_self2 (a c0 c1 : Nat) : (a ≤ a + c0 + c1) = True := eq_true (by omega)
@[go_sem] theorem le_self3 (a c0 c1 c2 : Nat) : (a ≤ a + c0 + c1 + c2) = True := eq_true (by omega)
@[go_sem] theorem le_self4 (a c0 c1 c2 c3 : Nat) : (a ≤ a + c0 + c1 + c2 + c3) = True := eq_true (by omega)
@[go_sem] theorem le_self5 (a c0 c1 c2 c3 c4 : Nat) : (a ≤ a + c0 + c1 + c2 + c3 + c4) = True := eq_true (by omega)
@[go_sem] theorem le_self6 (a c0 c1 c2 c3 c4 c5 : Nat) : (a ≤ a + c0 + c1 + c2 + c3 + c4 + c5) = True := eq_true (by omega)
@[go_sem] theorem lt_self1 (a c0 : Nat) : (a < a + 1 + c0) = True := eq_true (by omega)
@[go_sem] theorem ne_self1 (a c0 : Nat) : (a = a + 1 + c0) = False := eq_false (by omega)
@[go_sem] theorem lt_self2 (a c0 c1 : Nat) : (a < a + 1 + c0 + c1) = True := eq_true (by omega)
@[go_sem] theorem ne_self2 (a c0 c1 : Nat) : (a = a + 1 + c0 + c1) = False := eq_false (by omega)
@[go_sem] theorem lt_self3 (a c0 c1 c2 : Nat) : (a < a + 1 + c0 + c1 + c2) = True := eq_true (by omega)
@[go_sem] theorem ne_self3 (a c0 c1 c2 : Nat) : (a = a + 1 + c0 + c1 + c2) = False := eq_false (by omega)
@[go_sem] theorem lt_self4 (a c0 c1 c2 c3 : Nat) : (a < a + 1 + c0 + c1 + c2 + c3) = True := eq_true (by omega)
@[go_sem] theorem ne_self4 (a c0 c1 c2 c3 : Nat) : (a = a + 1 + c0 + c1 + c2 + c3) = False := eq_false (by omega)
@[go_sem] theorem lt_self5 (a c0 c1 c2 c3 c4 : Nat) : (a < a + 1 + c0 + c1 + c2 + c3 + c4) = True := eq_true (by omega)
@[go_sem] theorem ne_self5 (a c0 c1 c2 c3 c4 : Nat) : (a = a + 1 + c0 + c1 + c2 + c3 + c4) = False := eq_false (by omega)
theorem World.grew_none (w : World) : w.grew ⟨#[], w.drawn⟩ = w := by unfold World.grew; simp
theorem World.as_grew (w : World) : ∃ x, w = w.grew x := ⟨_, (World.grew_none w).symm⟩
theorem below_grew {B : Nat} {a w : World} (h : Below B a w) (hB : B ≤ w.heap.size) (x : Grown.By) : Below B a (w.grew x) :=
  h.trans ⟨rfl, rfl, rfl, by simp, fun k hk => World.grew_block _ _ _ (by omega)⟩

/-- What lies below the size of 'w' is as it was: so w' is w, grown. -/
theorem below_as_grew {w w' : World} (h : Below w.heap.size w w') : ∃ x : Grown.By, w' = w.grew x := by
  refine ⟨⟨w'.heap.extract w.heap.size w'.heap.size, w'.drawn⟩, ?_⟩
  have hh : w'.heap = w.heap ++ w'.heap.extract w.heap.size w'.heap.size := by
    apply Array.ext_getElem?
    intro k
    rw [Array.getElem?_append]
    by_cases hk : k < w.heap.size
    · rw [if_pos hk, h.block k hk]
    · rw [if_neg hk, Array.getElem?_extract]
      by_cases h2 : k < w'.heap.size
      · rw [if_pos (by omega)]
        congr 1; omega
      · rw [if_neg (by omega)]
        simp; omega
  obtain ⟨hp, tp, dr, os, out⟩ := w'
  obtain ⟨a1, a2, a3, a4, a5⟩ := h
  simp only at *
  subst a1 a2 a3
  unfold World.grew
  simp only
  congr 1

/-! A region that draws its order: its head is quiet in a class of worlds, its tail comes one by one. -/
section
variable {P : Program} {ops : Array Oper} {md : Region.Mode} {C : World → Prop}

def headQ (P : Program) (md : Region.Mode) (ops : Array Oper) (C : World → Prop) (n : Nat) (L : Array Bool → Act → Prop) : Nat → Array Bool → Act → Prop
  | 0, listed, a => L listed a
  | f + 1, listed, a =>
    Region.ready md ops listed ≠ [] ∧ ∀ i ∈ Region.ready md ops listed, i < n ∧ qOp P ops C i (headQ P md ops C n L f (listed.setIfInBounds i true)) a

theorem wpAny_of_headQ {n g : Nat} {L : Array Bool → Act → Prop} {Q' : Exit → Act → World → Prop} (hL : ∀ listed a w, C w → L listed a → wpAny P md ops Q' g listed a w) :
    ∀ (f : Nat) (listed : Array Bool) (a : Act) (w : World), C w → headQ P md ops C n L f listed a → wpAny P md ops Q' (f + g) listed a w
  | 0, listed, a, w, hw, h => by rw [Nat.zero_add]; exact hL _ _ _ hw h
  | f + 1, listed, a, w, hw, h => by
    rw [show f + 1 + g = (f + g) + 1 by omega]
    exact ⟨fun h0 => absurd h0 h.1, fun i hi => wpOp_of_qOp hw (fun a' w' hw' h' => wpAny_of_headQ hL f _ a' w' hw' h') (h.2 i hi).2⟩

theorem headQ_first {n i : Nat} {oi : Oper} {v : Value} {L : Array Bool → Act → Prop} (hi : ops[i]? = some oi) (hsel : ∀ (j : Nat) (o : Oper) cs b, ops[j]? = some o → o.op ≠ .select cs b)
    (hs : Region.sinkB md ops n = true) (hc : Region.chainB md ops n = true) (hn : n < ops.size) (hin : i < n)
    (hdone : ∀ listed a, L listed a → ∀ j ∈ Region.ready md ops listed, n ≤ j) :
    ∀ (f : Nat) (listed : Array Bool) (a : Act), HeadInv md ops n listed →
      (∀ j oj, ops[j]? = some oj → j ≠ i → listed.getD j true = false → (∀ e ∈ oj.after, Region.binds md e = true → e.on ≠ i) → oi.apart ops oj = true) →
      i ∈ Region.ready md ops listed → YieldsIn P ops C oi v a →
      headQ P md ops C n L f (listed.setIfInBounds i true) (a.put oi.dst v) → headQ P md ops C n L (f + 1) listed a := by
  intro f
  induction f with
  | zero =>
    intro listed a inv _ hr hy H
    have hun := (mem_ready.1 hr).1
    refine ⟨fun h => (by rw [h] at hr; cases hr), fun j hj => ?_⟩
    have hjn : j < n := by
      rcases Nat.lt_or_ge j n with h | h
      · exact h
      · exact absurd hj (tail_waits hs hc hn inv _ i rfl hin hun j h)
    refine ⟨hjn, ?_⟩
    by_cases hji : j = i
    · subst hji; exact hy.qOp hi H
    · have := hdone _ _ H j (ready_mono hj hji)
      omega
  | succ f ih =>
    intro listed a inv hfree hr hy H
    have hun := (mem_ready.1 hr).1
    refine ⟨fun h => (by rw [h] at hr; cases hr), fun j hj => ?_⟩
    have hjn : j < n := by
      rcases Nat.lt_or_ge j n with h | h
      · exact h
      · exact absurd hj (tail_waits hs hc hn inv _ i rfl hin hun j h)
    refine ⟨hjn, ?_⟩
    by_cases hji : j = i
    · subst hji; exact hy.qOp hi H
    · have h1 := (H.2 j (ready_mono hj hji)).2
      obtain ⟨hjun, oj, hoj, hall⟩ := mem_ready.1 hj
      have hnot : ∀ e ∈ oj.after, Region.binds md e = true → e.on ≠ i := fun e he hb heq => by
        have h1 := hall e he hb
        rw [heq, getD_both hun] at h1
        cases h1
      have h2 := qOp_put hoj (hfree j oj hoj hji hjun hnot) (fun cs b => hsel i oi cs b hi) (fun cs b => hsel j oj cs b hoj) hy h1
      have hfree' : ∀ k ok, ops[k]? = some ok → k ≠ i → (listed.setIfInBounds j true).getD k true = false →
          (∀ e ∈ ok.after, Region.binds md e = true → e.on ≠ i) → oi.apart ops ok = true := fun k ok hk hki hun hno => by
        refine hfree k ok hk hki ?_ hno
        by_cases hjk : j = k
        · subst hjk; exact hjun
        · rw [getD_set_ne true hjk] at hun; exact hun
      refine qOp_mono (fun a' h3 => ih (listed.setIfInBounds j true) a' (inv.set hj hjn) hfree' (ready_mono hr (Ne.symm hji)) h3.1 ?_) h2
      rw [Array.setIfInBounds_comm _ _ hji]
      exact h3.2

theorem headQ_lex {n g : Nat} {Lq : Act → Prop} (hsel : Region.noSelect ops = true) (hs : Region.sinkB md ops n = true) (hc : Region.chainB md ops n = true) (hn : n < ops.size) :
    ∀ (l : List Oper) (k : Nat) (listed : Array Bool) (a : Act), (∀ j, j < l.length → l[j]? = ops[k + j]?) → k + l.length = n → HeadInv md ops n listed →
    Region.lexHead md ops g l.length k listed = true → wpQuiet P ops C Lq l a →
    headQ P md ops C n (fun listed' a' => Region.seqB md ops g n listed' = true ∧ Lq a') l.length listed a
  | [], k, listed, a, _, hk, _, hB, h => by
    have : k = n := by simpa using hk
    subst this
    exact ⟨by simpa [Region.lexHead] using hB, h⟩
  | o :: l, k, listed, a, hl, hk, inv, hB, h => by
    have h0 : ops[k]? = some o := by simpa using (hl 0 (by simp)).symm
    simp only [List.length_cons, Region.lexHead, Bool.and_eq_true] at hB
    obtain ⟨⟨hr, hf⟩, hB'⟩ := hB
    have hkn : k < n := by simp only [List.length_cons] at hk; omega
    have hr' : k ∈ Region.ready md ops listed := by simpa using hr
    have hst : qOp P ops C k (wpQuiet P ops C Lq l) a := by unfold qOp; simp only [h0]; exact h
    obtain ⟨v, hy, hK⟩ := yieldsIn_of_qOp h0 hst
    exact headQ_first h0 (Region.noSelect_spec hsel) hs hc hn hkn (fun listed' a' hL => seqB_ready hL.1) l.length listed a inv (Region.free_spec h0 hf) hr' hy
      (headQ_lex hsel hs hc hn l (k + 1) _ _ (fun j hj => by have := hl (j + 1) (by simp; omega); simpa [Nat.add_assoc, Nat.add_comm 1 j] using this) (by simp only [List.length_cons] at hk; omega) (inv.set hr' hkn) hB' hK)

theorem wp_region_headQ {id : Nat} {Q : Exit → Act → World → Prop} {a : Act} {w : World} {l : List Oper} (n : Nat) (hm : P.follows .mixedOrders = true) (hB : Region.lexTailB .any l.toArray n = true)
    (hC : C { w with drawn := w.drawn + 1 })
    (h : wpQuiet P l.toArray C (fun a' => ∀ w', C w' → wpList P l.toArray Q (l.drop n) a' w') (l.take n) a) : (Code.region id l.toArray true).wp P Q a w := by
  simp only [Region.lexTailB, Bool.and_eq_true, decide_eq_true_eq] at hB
  obtain ⟨⟨⟨⟨hsel, hn⟩, hs⟩, hc⟩, hlex⟩ := hB
  have hn' : n < l.length := by simpa using hn
  have htl : (l.take n).length = n := by simp; omega
  have hdl : (l.drop n).length = l.toArray.size - n := by simp
  have inv0 : HeadInv .any l.toArray n (Array.replicate l.toArray.size false) :=
    ⟨by simp, fun j oj _ hl => (by rw [getD_replicate_false] at hl; cases hl), fun t _ ht => getD_in (by simpa using ht) (getD_replicate_false _ _)⟩
  have hhead := headQ_lex (P := P) (C := C) (md := .any) (ops := l.toArray) (n := n) (g := l.toArray.size - n) hsel hs hc hn (l.take n) 0 (Array.replicate l.toArray.size false) a
    (fun j hj => by rw [htl] at hj; simp [hj]) (by simpa using htl) inv0 (by rw [htl]; exact hlex) h
  rw [htl] at hhead
  refine wp_region_any hm ?_
  have := wpAny_of_headQ (P := P) (C := C) (md := .any) (ops := l.toArray) (Q' := Q) (g := l.toArray.size - n)
    (fun listed a' w' hw' hL => by
      have hq := wpAny_of_seq (P := P) (md := .any) (ops := l.toArray) (Q' := Q) (l.drop n) n listed a' w' (fun j => by simp [List.getElem?_drop]) (by rw [hdl]; exact hL.1) (hL.2 w' hw')
      rwa [hdl] at hq) n _ a _ hC hhead
  have e : n + (l.toArray.size - n) = l.toArray.size := by omega
  rwa [e] at this

/-- The class: the world at hand, grown. -/
theorem wp_region_grew {id : Nat} {Q : Exit → Act → World → Prop} {a : Act} {w : World} {l : List Oper} (n : Nat) (hm : P.follows .mixedOrders = true) (hB : Region.lexTailB .any l.toArray n = true)
    (h : wpQuiet P l.toArray (fun w' => ∃ x, w' = w.grew x) (fun a' => ∀ w', (∃ x, w' = w.grew x) → wpList P l.toArray Q (l.drop n) a' w') (l.take n) a) : (Code.region id l.toArray true).wp P Q a w :=
  wp_region_headQ n hm hB ⟨⟨#[], w.drawn + 1⟩, by unfold World.grew; simp⟩ h

/-- A region all of whose operations are quiet. -/
theorem wp_region_grew_all {id : Nat} {Q : Exit → Act → World → Prop} {a : Act} {w : World} {l : List Oper} (hm : P.follows .mixedOrders = true) (hB : Region.lexB .any l.toArray = true)
    (h : wpQuiet P l.toArray (fun w' => ∃ x, w' = w.grew x) (fun a' => ∀ w', (∃ x, w' = w.grew x) → Q .normal a' w') l a) : (Code.region id l.toArray true).wp P Q a w :=
  wp_region_quiet (C := fun w' => ∃ x, w' = w.grew x) hm hB ⟨⟨#[], w.drawn + 1⟩, by unfold World.grew; simp⟩ (by simpa using h)

theorem wp_region_grew2 {id : Nat} {Q : Exit → Act → World → Prop} {a : Act} {w : World} {x0 : Grown.By} {l : List Oper} (n : Nat) (hm : P.follows .mixedOrders = true) (hB : Region.lexTailB .any l.toArray n = true)
    (h : wpQuiet P l.toArray (fun w' => ∃ x, w' = w.grew x) (fun a' => ∀ w', (∃ x, w' = w.grew x) → wpList P l.toArray Q (l.drop n) a' w') (l.take n) a) : (Code.region id l.toArray true).wp P Q a (w.grew x0) :=
  wp_region_headQ n hm hB ⟨⟨x0.objs, x0.drawn + 1⟩, rfl⟩ h
theorem wp_region_grew_all2 {id : Nat} {Q : Exit → Act → World → Prop} {a : Act} {w : World} {x0 : Grown.By} {l : List Oper} (hm : P.follows .mixedOrders = true) (hB : Region.lexB .any l.toArray = true)
    (h : wpQuiet P l.toArray (fun w' => ∃ x, w' = w.grew x) (fun a' => ∀ w', (∃ x, w' = w.grew x) → Q .normal a' w') l a) : (Code.region id l.toArray true).wp P Q a (w.grew x0) :=
  wp_region_quiet (C := fun w' => ∃ x, w' = w.grew x) hm hB ⟨⟨x0.objs, x0.drawn + 1⟩, rfl⟩ (by simpa using h)

/-- A contract that makes memory, met in a grown world. -/
theorem Calls.grew_of {f : FuncId} {args : Array Value} {w : World} {x : Grown.By} {v : Value}
    (h : Calls P f args (w.grew x) fun e w' => e = .returned v ∧ Below (w.grew x).heap.size (w.grew x) w') : Calls P f args (w.grew x) fun e w'' => e = .returned v ∧ ∃ y, w'' = w.grew y :=
  h.mono fun _ _ ⟨he, hb⟩ => ⟨he, by
    obtain ⟨y, hy⟩ := below_as_grew hb
    exact ⟨_, hy.trans (World.grew_grew w x y)⟩⟩
/-- A contract that leaves the world alone. -/
theorem Calls.grew_of_same {f : FuncId} {args : Array Value} {w : World} {x : Grown.By} {v : Value}
    (h : Calls P f args (w.grew x) fun e w' => e = .returned v ∧ w.grew x = w') : Calls P f args (w.grew x) fun e w'' => e = .returned v ∧ ∃ y, w'' = w.grew y :=
  h.mono fun _ _ ⟨he, hb⟩ => ⟨he, x, hb.symm⟩
end

theorem ret_int {k : IntKind} {a b : Int} (h : a = b) : Ending.returned (.int k a) = .returned (.int k b) := by rw [h]
theorem ret_bool {a b : Bool} (h : a = b) : Ending.returned (.bool a) = .returned (.bool b) := by rw [h]
/-! A table of integers at block g. -/
def TabW (g n : Nat) (k : IntKind) (zs : List Int) (w : World) : Prop := g < w.heap.size ∧ ∀ j : Nat, j < n → w.cell? ⟨g, j, none⟩ = some (.int k (zs.getD j 0))
theorem TabW.below {g n : Nat} {k : IntKind} {zs : List Int} {w w' : World} (h : TabW g n k zs w) (hb : Below w.heap.size w w') : TabW g n k zs w' :=
  ⟨Nat.lt_of_lt_of_le h.1 hb.size, fun j hj => (hb.cell (p := ⟨g, j, none⟩) h.1).trans (h.2 j hj)⟩

/-! Masks on int. -/
theorem i64_mask (i : Nat) (hi : i ≤ 62) (x : Int) : bits .and .i64 x (2 ^ i - 1) = x % 2 ^ i := by
  have hpos : 0 < 2 ^ i := Nat.two_pow_pos i
  have hle : 2 ^ i ≤ 2 ^ 62 := Nat.pow_le_pow_right (by decide) hi
  have hc : ((2 : Int) ^ i - 1) = ((2 ^ i - 1 : Nat) : Int) := by
    rw [Int.natCast_sub hpos]; simp
  have hm : (2 ^ i - 1) % 2 ^ 64 = 2 ^ i - 1 := Nat.mod_eq_of_lt (by omega)
  have hd : (2 : Int) ^ i ∣ 2 ^ 64 := by
    obtain ⟨d, hd⟩ : ∃ d, 64 = i + d := ⟨64 - i, by omega⟩
    exact ⟨2 ^ d, by rw [hd, Int.pow_add]⟩
  rw [hc]
  have hb : IntKind.bits .i64 = 64 := rfl
  simp only [bits, hb, BitVec.ofInt_natCast, BitVec.toNat_and, BitVec.toNat_ofNat, BitVec.toNat_ofInt, hm, Nat.and_two_pow_sub_one_eq_mod]
  have h2 : (((x % ((2 ^ 64 : Nat) : Int)).toNat % 2 ^ i : Nat) : Int) = x % 2 ^ i := by
    rw [Int.natCast_emod, Int.toNat_of_nonneg (Int.emod_nonneg _ (by decide))]
    have e1 : ((2 ^ 64 : Nat) : Int) = 2 ^ 64 := by decide
    have e2 : ((2 ^ i : Nat) : Int) = 2 ^ i := by simp
    rw [e1, e2]
    exact Int.emod_emod_of_dvd x hd
  rw [h2]
  have hp : (0 : Int) < 2 ^ i := by exact_mod_cast hpos
  have b0 : 0 ≤ x % 2 ^ i := Int.emod_nonneg _ (Int.ne_of_gt hp)
  have b1 : x % 2 ^ i < 2 ^ i := Int.emod_lt_of_pos _ hp
  have b2 : (2 : Int) ^ i ≤ 2 ^ 62 := by exact_mod_cast hle
  rw [IntKind.wrap_i64]
  have : (2 : Int) ^ 62 = 4611686018427387904 := by decide
  omega
theorem i64_and1 (x : Int) : bits .and .i64 x 1 = x % 2 := i64_mask 1 (by decide) x
theorem i64_and3 (x : Int) : bits .and .i64 x 3 = x % 4 := i64_mask 2 (by decide) x
theorem i64_and7 (x : Int) : bits .and .i64 x 7 = x % 8 := i64_mask 3 (by decide) x
theorem i64_and15 (x : Int) : bits .and .i64 x 15 = x % 16 := i64_mask 4 (by decide) x
theorem i64_and255 (x : Int) : bits .and .i64 x 255 = x % 256 := i64_mask 8 (by decide) x

/-- Behind an append to a row of one's own from 'base' on, all below 'base' is as it was. -/
theorem below_of_grown {base : Nat} {e : TypeId} {size n : Nat} {v : Value} {xs : List Value} {w w' : World} (hown : w.ownsRow base e size v n xs) (hg : w.grownBy w' v.ownBlock) (hbase : base ≤ w.heap.size) : Below base w w' :=
  ⟨hg.os, hg.tape, hg.output, hg.size, fun k hk => hg.block k (by omega) (fun h => by
    have := (hown.lt k h.symm).1
    omega)⟩

theorem ownsRow_below {base : Nat} {e : TypeId} {size n : Nat} {v : Value} {xs : List Value} {w w' : World} (hown : w.ownsRow base e size v n xs) (hb : Below w.heap.size w w') : w'.ownsRow base e size v n xs := by
  obtain ⟨h1, h2⟩ := hown
  refine ⟨h1, ?_⟩
  rcases h2 with h2 | ⟨g, cap, cur, hv, hg, hh, r⟩
  · exact .inl h2
  · exact .inr ⟨g, cap, cur, hv, hg, (hb.block g (Array.getElem?_eq_some_iff.1 hh).1).trans hh, r⟩

/-- 'v = append(v, x)': one element, which lies in the block that was made last. -/
theorem wpList_append_one {P : Program} {ops : Array Oper} {rest : List Oper} {o : Oper} {a : Act} {Q : Exit → Act → World → Prop} {w : World} (hgd : o.guard = none) (s x : Operand) (t : TypeId)
    (ho : o.op = .call { callee := .builtin .append, args := #[s, x], argTypes := #[t, t] })
    (base : Nat) (e : TypeId) (z : Value) (size bytes : Nat) (ht : P.underlying t = some (.slice e)) (hi : (P.info? e).map (fun i => (i.zero, i.size, i.bytes)) = some (some z, size, bytes))
    (hzs : z.cells.size = size) (hsz : 0 < size)
    (v : Value) (n : Nat) (xs : List Value) (hs : a.eval s = v) (hown : w.ownsRow base e size v n xs)
    (g : Nat) (news : List Value) (hx : a.eval x = .slice (some ⟨g, 0, none⟩) 1 1) (hg : g = w.heap.size) (hl : news.length = size) (h1 : ∀ u ∈ news, u.oneCell' = true)
    (h63 : n + 1 ≤ maxLen) (hbytes : (n + 1) * bytes ≤ 140737488355328) (hbase : base ≤ w.heap.size)
    (h : ∀ v' w', w'.ownsRow base e size v' (n + 1) (xs ++ news) → Below base w w' → w.grownBy w' v.ownBlock → (v'.ownBlock = v.ownBlock ∨ v'.ownBlock = some (w.heap.size + 1)) → wpList P ops Q rest (a.put o.dst v') w') :
    wpList P ops Q (o :: rest) a (w.alloc (.cells news.toArray e)) := by
  subst hg
  obtain ⟨i0, hi0, hz0, hz1, hz2⟩ := info_parts hi
  refine wpList_append_own_at (w := w.alloc (.cells news.toArray e)) hgd s x t ho base e i0 z size bytes ht hi0 hz0 hz1 hz2 hzs hsz v n xs hs (hown.alloc _) ⟨w.heap.size, 0, none⟩ 1 1 news hx (by omega) ?_ h1 h63 hbytes (by simp; omega) ?_
  · intro j u hj
    have : (⟨w.heap.size, 0, none⟩ : Addr).add j = ⟨w.heap.size, j, none⟩ := by unfold Addr.add; split <;> simp_all
    rw [this, World.cell?_alloc_new]
    simpa using hj
  · intro v' w' h2 h3 _ h5
    have h6 : w.grownBy w' v.ownBlock := (World.grownBy_alloc w _ _).trans h3
    exact h v' w' h2 (below_of_grown hown h6 hbase) h6 (by simpa using h5)

/-! 'max', 'min' of whole numbers, as Lean's own. -/
theorem max2_i (k k' : IntKind) (x y : Int) : Builtin.max2 (.int k x) (.int k' y) = pure (.int k (max x y)) := by
  simp only [Builtin.max2]
  congr 2
  split <;> omega
theorem min2_i (k k' : IntKind) (x y : Int) : Builtin.min2 (.int k x) (.int k' y) = pure (.int k (min x y)) := by
  simp only [Builtin.min2]
  congr 2
  split <;> omega
theorem max_2 (ats : Array TypeId) (ty : TypeId) (a b : Value) : Builtin.max_ ats ty #[a, b] = (Builtin.max2 a b >>= fun s => pure s) := by simp only [Builtin.max_, List.foldlM_cons, List.foldlM_nil]
theorem min_2 (ats : Array TypeId) (ty : TypeId) (a b : Value) : Builtin.min_ ats ty #[a, b] = (Builtin.min2 a b >>= fun s => pure s) := by simp only [Builtin.min_, List.foldlM_cons, List.foldlM_nil]
theorem max_3 (ats : Array TypeId) (ty : TypeId) (a b c : Value) : Builtin.max_ ats ty #[a, b, c] = (Builtin.max2 a b >>= fun s => Builtin.max2 s c >>= fun s => pure s) := by simp only [Builtin.max_, List.foldlM_cons, List.foldlM_nil]
theorem min_3 (ats : Array TypeId) (ty : TypeId) (a b c : Value) : Builtin.min_ ats ty #[a, b, c] = (Builtin.min2 a b >>= fun s => Builtin.min2 s c >>= fun s => pure s) := by simp only [Builtin.min_, List.foldlM_cons, List.foldlM_nil]
attribute [go_sem] max2_i min2_i max_2 min_2 max_3 min_3

/-- Behind a grown world, a new block is more growth. -/
theorem World.alloc_grew (w : World) (x : Grown.By) (o : Obj) : (w.grew x).alloc o = w.grew ⟨x.objs.push o, x.drawn⟩ := by
  unfold World.alloc World.grew
  simp
theorem maxLen_le {n : Nat} (h : n ≤ 4294967295) : n ≤ maxLen := by unfold maxLen; omega
end Go
