/-
  The sound of all channels, number by number (plain): code and document alike; two lists are alike.
  (One text out of these parts: Kit, Cis, CisD, Eq, Rgn, RgnI, CisAd, Mode, ConcW, Vec, Book, BookV, CostP, CostB, Total, AllocM, AllocMW, St, RefAlloc, AllocF, RefA, StP, StL, Bx, LoseP, MixP.)
-/
import Derived.Test.YtmcjbejccelagaaDoorMsla
import Derived.Deep.Quiet
import Derived.StillTail
import Derived.BigQuiet
import Derived.Below
import Derived.WalkKit
import Derived.WalkLawsBesides
import Derived.Lib.Hide
import Derived.Carry
import Derived.IntWalk
import Derived.Maps.AppendAt
import Derived.OwnWalk
import Derived.KernelRfl
import Derived.Test.YtmcjbejccelagaaDoorProg
import Derived.Laws.Externs
import Derived.Outline
import Derived.Shelf.Spec.BitsCarry
import Derived.Test.YtmcjbejccelagaaDoorShelf
import Derived.LoopTactic
import Derived.Laws.StructEq
import Derived.Great.BuildSlice
import Derived.StillTailTactics
import Derived.Lib.BitFns
import Derived.Laws.PanicsMore
import Derived.Test.YtmcjbejccelagaaDoorPAllocTellsx0
import Derived.Deep.MidRow
import Derived.Laws.CopyOwn
import Derived.Lib.SliceRun
import Derived.Laws.ResultCell
import Derived.Laws.Rows
section
namespace Go
open Go.RowKit
/-- Blocks more, and another count of draws. -/
structure Grown.By where
  objs : Array Obj
  drawn : Nat
instance : Inhabited Grown.By := ⟨⟨#[], 0⟩⟩
/-- 'w' with blocks more, and another count of draws. -/
def World.grew (w : World) (x : Grown.By) : World := { w with heap := w.heap ++ x.objs, drawn := x.drawn }
section
variable (w : World) (x y : Grown.By)
theorem World.grew_block (k : Nat) (h : k < w.heap.size) : (w.grew x).heap[k]? = w.heap[k]? := by
  show (w.heap ++ x.objs)[k]? = _
  rw [Array.getElem?_append_left h]
@[simp, go_sem] theorem World.size_grew : (w.grew x).heap.size = w.heap.size + x.objs.size := by
  show (w.heap ++ x.objs).size = _
  simp
@[go_sem] theorem World.grew_grew : (w.grew x).grew y = w.grew ⟨x.objs ++ y.objs, y.drawn⟩ := by
  unfold World.grew
  simp [Array.append_assoc]
@[go_sem] theorem World.drew_grew : (w.grew x).drew = w.grew ⟨x.objs, x.drawn + 1⟩ := rfl
@[go_sem] theorem World.grew_drew : w.drew.grew x = w.grew x := rfl
@[go_sem] theorem World.cell?_grew (n i : Nat) (s : Option Nat) (hn : n < w.heap.size) : (w.grew x).cell? ⟨n, i, s⟩ = w.cell? ⟨n, i, s⟩ := by
  unfold World.cell?
  rw [World.grew_block w x n hn]
@[go_sem] theorem World.frozen?_grew (n i : Nat) (s : Option Nat) (hn : n < w.heap.size) : (w.grew x).frozen? ⟨n, i, s⟩ = w.frozen? ⟨n, i, s⟩ := by
  unfold World.frozen?
  rw [World.grew_block w x n hn]
@[go_sem] theorem World.shape?_grew (n : Nat) (hn : n < w.heap.size) : (w.grew x).shape? n = w.shape? n := by
  unfold World.shape?
  rw [World.grew_block w x n hn]
@[go_sem] theorem World.setCell_grew (n i : Nat) (s : Option Nat) (v : Value) (hn : n < w.heap.size) : (w.grew x).setCell ⟨n, i, s⟩ v = (w.setCell ⟨n, i, s⟩ v).grew x := by
  unfold World.setCell World.grew
  congr 1
  apply Array.ext_getElem?
  intro k
  simp only [Array.getElem?_modify, Array.getElem?_append, Array.size_modify]
  by_cases hk : k < w.heap.size
  · simp [hk]
  · simp [hk]
    intro h; omega
@[go_sem] theorem World.heap_grew (k : Nat) (hk : k < w.heap.size) : (w.grew x).heap[k]? = w.heap[k]? := World.grew_block w x k hk
@[simp] theorem World.os_grew : (w.grew x).os = w.os := rfl
@[simp] theorem World.tape_grew : (w.grew x).tape = w.tape := rfl
end
@[go_sem] theorem lt_add_of_lt1 (a b c0 : Nat) (h : a < b) : (a < b + c0) = True := eq_true (by omega)
@[go_sem] theorem le_add_of_lt1 (a b c0 : Nat) (h : a < b) : (a ≤ b + c0) = True := eq_true (by omega)
@[go_sem] theorem ne_add_of_lt1 (a b c0 : Nat) (h : a < b) : (a = b + c0) = False := eq_false (by omega)
@[go_sem] theorem lt_add_of_lt2 (a b c0 c1 : Nat) (h : a < b) : (a < b + c0 + c1) = True := eq_true (by omega)
@[go_sem] theorem le_add_of_lt2 (a b c0 c1 : Nat) (h : a < b) : (a ≤ b + c0 + c1) = True := eq_true (by omega)
@[go_sem] theorem ne_add_of_lt2 (a b c0 c1 : Nat) (h : a < b) : (a = b + c0 + c1) = False := eq_false (by omega)
@[go_sem] theorem lt_add_of_lt3 (a b c0 c1 c2 : Nat) (h : a < b) : (a < b + c0 + c1 + c2) = True := eq_true (by omega)
@[go_sem] theorem le_add_of_lt3 (a b c0 c1 c2 : Nat) (h : a < b) : (a ≤ b + c0 + c1 + c2) = True := eq_true (by omega)
@[go_sem] theorem ne_add_of_lt3 (a b c0 c1 c2 : Nat) (h : a < b) : (a = b + c0 + c1 + c2) = False := eq_false (by omega)
@[go_sem] theorem lt_add_of_lt4 (a b c0 c1 c2 c3 : Nat) (h : a < b) : (a < b + c0 + c1 + c2 + c3) = True := eq_true (by omega)
@[go_sem] theorem le_add_of_lt4 (a b c0 c1 c2 c3 : Nat) (h : a < b) : (a ≤ b + c0 + c1 + c2 + c3) = True := eq_true (by omega)
@[go_sem] theorem ne_add_of_lt4 (a b c0 c1 c2 c3 : Nat) (h : a < b) : (a = b + c0 + c1 + c2 + c3) = False := eq_false (by omega)
@[go_sem] theorem lt_add_of_lt5 (a b c0 c1 c2 c3 c4 : Nat) (h : a < b) : (a < b + c0 + c1 + c2 + c3 + c4) = True := eq_true (by omega)
@[go_sem] theorem le_add_of_lt5 (a b c0 c1 c2 c3 c4 : Nat) (h : a < b) : (a ≤ b + c0 + c1 + c2 + c3 + c4) = True := eq_true (by omega)
@[go_sem] theorem ne_add_of_lt5 (a b c0 c1 c2 c3 c4 : Nat) (h : a < b) : (a = b + c0 + c1 + c2 + c3 + c4) = False := eq_false (by omega)
@[go_sem] theorem le_self2 (a c0 c1 : Nat) : (a ≤ a + c0 + c1) = True := eq_true (by omega)
@[go_sem] theorem le_self3 (a c0 c1 c2 : Nat) : (a ≤ a + c0 + c1 + c2) = True := eq_true (by omega)
@[go_sem] theorem le_self4 (a c0 c1 c2 c3 : Nat) : (a ≤ a + c0 + c1 + c2 + c3) = True := eq_true (by omega)
@[go_sem] theorem le_self5 (a c0 c1 c2 c3 c4 : Nat) : (a ≤ a + c0 + c1 + c2 + c3 + c4) = True := eq_true (by omega)
@[go_sem] theorem le_self6 (a c0 c1 c2 c3 c4 c5 : Nat) : (a ≤ a + c0 + c1 + c2 + c3 + c4 + c5) = True := eq_true (by omega)
@[go_sem] theorem lt_self1 (a c0 : Nat) : (a < a + 1 + c0) = True := eq_true (by omega)
@[go_sem] theorem ne_self1 (a c0 : Nat) : (a = a + 1 + c0) = False := eq_false (by omega)
@[go_sem] theorem lt_self2 (a c0 c1 : Nat) : (a < a + 1 + c0 + c1) = True := eq_true (by omega)
@[go_sem] theorem ne_self2 (a c0 c1 : Nat) : (a = a + 1 + c0 + c1) = False := eq_false (by omega)
@[go_sem] theorem lt_self3 (a c0 c1 c2 : Nat) : (a < a + 1 + c0 + c1 + c2) = True := eq_true (by omega)
@[go_sem] theorem ne_self3 (a c0 c1 c2 : Nat) : (a = a + 1 + c0 + c1 + c2) = False := eq_false (by omega)
@[go_sem] theorem lt_self4 (a c0 c1 c2 c3 : Nat) : (a < a + 1 + c0 + c1 + c2 + c3) = True := eq_true (by omega)
@[go_sem] theorem ne_self4 (a c0 c1 c2 c3 : Nat) : (a = a + 1 + c0 + c1 + c2 + c3) = False := eq_false (by omega)
@[go_sem] theorem lt_self5 (a c0 c1 c2 c3 c4 : Nat) : (a < a + 1 + c0 + c1 + c2 + c3 + c4) = True := eq_true (by omega)
@[go_sem] theorem ne_self5 (a c0 c1 c2 c3 c4 : Nat) : (a = a + 1 + c0 + c1 + c2 + c3 + c4) = False := eq_false (by omega)
theorem below_grew {B : Nat} {a w : World} (h : Below B a w) (hB : B ≤ w.heap.size) (x : Grown.By) : Below B a (w.grew x) :=
  h.trans ⟨rfl, rfl, rfl, by simp, fun k hk => World.grew_block _ _ _ (by omega)⟩
/-- What lies below the size of 'w' is as it was: so w' is w, grown. -/
theorem below_as_grew {w w' : World} (h : Below w.heap.size w w') : ∃ x : Grown.By, w' = w.grew x := by
  refine ⟨⟨w'.heap.extract w.heap.size w'.heap.size, w'.drawn⟩, ?_⟩
  have hh : w'.heap = w.heap ++ w'.heap.extract w.heap.size w'.heap.size := by
    apply Array.ext_getElem?
    intro k
    rw [Array.getElem?_append]
    by_cases hk : k < w.heap.size
    · rw [if_pos hk, h.block k hk]
    · rw [if_neg hk, Array.getElem?_extract]
      by_cases h2 : k < w'.heap.size
      · rw [if_pos (by omega)]
        congr 1; omega
      · rw [if_neg (by omega)]
        simp; omega
  obtain ⟨hp, tp, dr, os, out⟩ := w'
  obtain ⟨a1, a2, a3, a4, a5⟩ := h
  simp only at *
  subst a1 a2 a3
  unfold World.grew
  simp only
  congr 1
theorem ret_int {k : IntKind} {a b : Int} (h : a = b) : Ending.returned (.int k a) = .returned (.int k b) := by rw [h]
theorem ret_bool {a b : Bool} (h : a = b) : Ending.returned (.bool a) = .returned (.bool b) := by rw [h]
def TabW (g n : Nat) (k : IntKind) (zs : List Int) (w : World) : Prop := g < w.heap.size ∧ ∀ j : Nat, j < n → w.cell? ⟨g, j, none⟩ = some (.int k (zs.getD j 0))
theorem TabW.below {g n : Nat} {k : IntKind} {zs : List Int} {w w' : World} (h : TabW g n k zs w) (hb : Below w.heap.size w w') : TabW g n k zs w' :=
  ⟨Nat.lt_of_lt_of_le h.1 hb.size, fun j hj => (hb.cell (p := ⟨g, j, none⟩) h.1).trans (h.2 j hj)⟩
theorem ownsRow_below {base : Nat} {e : TypeId} {size n : Nat} {v : Value} {xs : List Value} {w w' : World} (hown : w.ownsRow base e size v n xs) (hb : Below w.heap.size w w') : w'.ownsRow base e size v n xs := by
  obtain ⟨h1, h2⟩ := hown
  refine ⟨h1, ?_⟩
  rcases h2 with h2 | ⟨g, cap, cur, hv, hg, hh, r⟩
  · exact .inl h2
  · exact .inr ⟨g, cap, cur, hv, hg, (hb.block g (Array.getElem?_eq_some_iff.1 hh).1).trans hh, r⟩
theorem maxLen_le {n : Nat} (h : n ≤ 4294967295) : n ≤ maxLen := by unfold maxLen; omega
end Go
end

section
namespace Go.Proofs.YtmcjbejccelagaaDoor
open Go.RowKit Go.BigFrame
set_option linter.unusedSimpArgs false
def cosL : List Int := [4096, 4095, 4091, 4085, 4076, 4065, 4052, 4036, 4017, 3996, 3973, 3948, 3920, 3889, 3857, 3822, 3784, 3745, 3703, 3659, 3612, 3564, 3513, 3461, 3406, 3349, 3290, 3229, 3166, 3102, 3035, 2967, 2896, 2824, 2751, 2675, 2598, 2520, 2440, 2359, 2276, 2191, 2106, 2019, 1931, 1842, 1751, 1660, 1567, 1474, 1380, 1285, 1189, 1092, 995, 897, 799, 700, 601, 501, 401, 301, 201, 101, 0]
def cosAt (j : Int) : Int := cosL.getD j.toNat 0
abbrev CosW (w : World) : Prop := TabW 1 65 .i64 cosL w
theorem CosW.at {w : World} (h : CosW w) (j : Int) (h0 : 0 ≤ j) (h1 : j ≤ 64) : w.cell? ⟨1, j.toNat, none⟩ = some (.int .i64 (cosAt j)) := h.2 j.toNat (by omega)
end Go.Proofs.YtmcjbejccelagaaDoor
end

section
namespace Go.Proofs.YtmcjbejccelagaaDoor
open Go.RowKit Go.BigFrame
set_option linter.unusedSimpArgs false
/-- A list of pairs that lies in memory. -/
def PairsAt (w : World) (v : Value) (l : List (Int × Int)) : Prop :=
  (l = [] ∧ ∃ a c, v = .slice a 0 c) ∨ ∃ b off c, v = .slice (some ⟨b, off, none⟩) l.length c ∧ b < w.heap.size ∧
    ∀ j, j < l.length → w.cell? ⟨b, off + j * 2, none⟩ = some (.int .i64 (l.getD j (0, 0)).1) ∧ w.cell? ⟨b, off + j * 2 + 1, none⟩ = some (.int .i64 (l.getD j (0, 0)).2)
theorem PairsAt.below {w w' : World} {v : Value} {l : List (Int × Int)} (h : PairsAt w v l) (hb : Below w.heap.size w w') : PairsAt w' v l := by
  rcases h with h | ⟨b, off, c, hv, hlt, hc⟩
  · exact .inl h
  · exact .inr ⟨b, off, c, hv, Nat.lt_of_lt_of_le hlt hb.size, fun j hj => ⟨(hb.cell (p := ⟨b, _, none⟩) hlt).trans (hc j hj).1, (hb.cell (p := ⟨b, _, none⟩) hlt).trans (hc j hj).2⟩⟩
end Go.Proofs.YtmcjbejccelagaaDoor
end

section
namespace Go
set_option linter.unusedSimpArgs false
inductive Leaf where
  | int (k : IntKind)
  | bool
  deriving DecidableEq
def Leaf.fits : Leaf → Value → Bool
  | .int k, .int k' _ => decide (k = k')
  | .bool, .bool _ => true
  | _, _ => false
/-- Two cells alike. -/
def cellEq : Value → Value → Bool
  | .int _ a, .int _ b => a == b
  | .bool a, .bool b => a == b
  | _, _ => false
def cellsEq : List Value → List Value → Bool
  | [], [] => true
  | x :: xs, y :: ys => cellEq x y && cellsEq xs ys
  | _, _ => false
def fitAll : List Leaf → List Value → Bool
  | [], [] => true
  | l :: ls, x :: xs => l.fits x && fitAll ls xs
  | _, _ => false
/-- The fields' offsets are the sums of what stands ahead; none is blank. -/
def offsOk : List Field → List (List Leaf) → Nat → Bool
  | [], [], _ => true
  | f :: fs, l :: ls, o => f.name != "_" && f.offset == o && offsOk fs ls (o + l.length)
  | _, _, _ => false
/-- The cells of a type of whole numbers and bools. -/
def layout (P : Program) : Nat → TypeId → Option (List Leaf)
  | 0, _ => none
  | d + 1, t =>
    match P.underlying t with
    | some .bool => if (P.info? t).isSome && P.cellsOf t == 1 then some [.bool] else none
    | some (.int k) => if (P.info? t).isSome && P.cellsOf t == 1 then some [.int k] else none
    | some (.array n e) => (layout P d e).bind fun l => if (P.info? t).isSome && P.cellsOf t == (List.replicate n l).flatten.length then some (List.replicate n l).flatten else none
    | some (.struct fs) => (fs.toList.mapM fun f => layout P d f.type).bind fun ls => if (P.info? t).isSome && P.cellsOf t == ls.flatten.length && offsOk fs.toList ls 0 && !P.stoodInHeld t then some ls.flatten else none
    | _ => none
def isAggB (P : Program) (t : TypeId) : Bool := match P.underlying t with | some (.struct _) | some (.array _ _) => true | _ => false
def asVal (P : Program) (t : TypeId) (cs : List Value) : Value := if isAggB P t then .agg cs.toArray else cs.headD undef
theorem fitAll_length : ∀ {ls : List Leaf} {xs : List Value}, fitAll ls xs = true → xs.length = ls.length
  | [], [], _ => rfl
  | _ :: ls, _ :: xs, h => by
    simp only [fitAll, Bool.and_eq_true] at h
    simp [fitAll_length h.2]
theorem fits_bool {v : Value} (h : Leaf.bool.fits v = true) : ∃ b, v = .bool b := by
  cases v with
  | bool b => exact ⟨b, rfl⟩
  | _ => exact absurd h (by simp [Leaf.fits])
theorem fits_int {k : IntKind} {v : Value} (h : (Leaf.int k).fits v = true) : ∃ n, v = .int k n := by
  cases v with
  | int k' n =>
    have : k = k' := by simpa [Leaf.fits] using h
    exact ⟨n, by rw [this]⟩
  | _ => exact absurd h (by simp [Leaf.fits])
theorem fit_one {l : Leaf} {xs : List Value} (h : fitAll [l] xs = true) : ∃ x, xs = [x] ∧ l.fits x = true := by
  cases xs with
  | nil => simp [fitAll] at h
  | cons x xs =>
    cases xs with
    | nil => exact ⟨x, rfl, by simpa [fitAll] using h⟩
    | cons y ys => simp [fitAll] at h
theorem fitAll_append : ∀ {ls ms : List Leaf} {xs : List Value}, fitAll (ls ++ ms) xs = true → fitAll ls (xs.take ls.length) = true ∧ fitAll ms (xs.drop ls.length) = true
  | [], ms, xs, h => by simpa [fitAll] using h
  | l :: ls, ms, x :: xs, h => by
    simp only [List.cons_append, fitAll, Bool.and_eq_true] at h
    obtain ⟨h1, h2⟩ := fitAll_append h.2
    exact ⟨by simp [fitAll, h.1, h1], by simpa using h2⟩
theorem cellsEq_append : ∀ (xs ys us vs : List Value), xs.length = ys.length → cellsEq (xs ++ us) (ys ++ vs) = (cellsEq xs ys && cellsEq us vs)
  | [], [], us, vs, _ => by simp [cellsEq]
  | x :: xs, y :: ys, us, vs, h => by
    simp only [List.cons_append, cellsEq]
    rw [cellsEq_append xs ys us vs (by simpa using h), Bool.and_assoc]
section
variable {P : Program} (w : World)
theorem layout_info {d : Nat} {t : TypeId} {ls : List Leaf} (h : layout P d t = some ls) : ∃ i, P.info? t = some i ∧ i.size = ls.length := by
  cases d with
  | zero => simp [layout] at h
  | succ d =>
    have key : ∀ n : Nat, ((P.info? t).isSome && P.cellsOf t == n) = true → ∃ i, P.info? t = some i ∧ i.size = n := by
      intro n hn
      simp only [Bool.and_eq_true, beq_iff_eq] at hn
      obtain ⟨i, hi⟩ := Option.isSome_iff_exists.1 hn.1
      exact ⟨i, hi, by rw [← hn.2]; simp [Program.cellsOf, hi]⟩
    simp only [layout] at h
    split at h
    · split at h
      · cases h; exact key 1 (by assumption)
      · cases h
    · split at h
      · cases h; exact key 1 (by assumption)
      · cases h
    · simp only [Option.bind_eq_some_iff] at h
      obtain ⟨l, _, h⟩ := h
      split at h
      · cases h; exact key _ (by assumption)
      · cases h
    · simp only [Option.bind_eq_some_iff] at h
      obtain ⟨l, _, h⟩ := h
      split at h
      · rename_i hc
        cases h
        simp only [Bool.and_eq_true] at hc
        exact key _ (by simp only [Bool.and_eq_true]; exact hc.1.1)
      · cases h
    · cases h
theorem run_part_flat {d : Nat} {e : TypeId} {ls : List Leaf} (h : layout P d e = some ls) (cs : Array Value) (off : Nat) (hf : fitAll ls ((cs.toList.drop off).take ls.length) = true) :
    (part e cs off).run P w = .ok (asVal P e ((cs.toList.drop off).take ls.length)) w := by
  obtain ⟨i, hi, hs⟩ := layout_info h
  have hlen := fitAll_length hf
  cases d with
  | zero => simp [layout] at h
  | succ d =>
    have hex : (cs.extract off (off + ls.length)).toList = (cs.toList.drop off).take ls.length := by simp [List.drop_take]
    simp only [layout] at h
    unfold part asVal isAggB
    have one : ∀ (l : Leaf), ls = [l] → ∃ v, cs[off]? = some v ∧ (cs.toList.drop off).take ls.length = [v] := by
      intro l hl
      subst hl
      cases hd : cs.toList.drop off with
      | nil => rw [hd] at hlen; simp at hlen
      | cons v r =>
        refine ⟨v, ?_, by simp⟩
        have : (cs.toList.drop off)[0]? = some v := by rw [hd]; rfl
        simpa using this
    split at h
    · rename_i hu
      split at h
      · cases h
        obtain ⟨v, hv, he⟩ := one _ rfl
        simp only [Sem.run_bind, isAgg, run_underlying hu, Result.andThen_ok, Sem.run_pure, hu, Bool.false_eq_true, if_false, hv]
        rw [he]; rfl
      · cases h
    · rename_i hu
      split at h
      · cases h
        obtain ⟨v, hv, he⟩ := one _ rfl
        simp only [Sem.run_bind, isAgg, run_underlying hu, Result.andThen_ok, Sem.run_pure, hu, Bool.false_eq_true, if_false, hv]
        rw [he]; rfl
      · cases h
    · rename_i hu
      simp only [Sem.run_bind, isAgg, run_underlying hu, Result.andThen_ok, Sem.run_pure, hu, if_true, sizeOf, typeInfo, hi]
      simp only [Sem.run_bind, run_program, Result.andThen_ok, hi, Sem.run_pure, hs]
      rw [← hex]
    · rename_i hu
      simp only [Sem.run_bind, isAgg, run_underlying hu, Result.andThen_ok, Sem.run_pure, hu, if_true, sizeOf, typeInfo, hi]
      simp only [Sem.run_bind, run_program, Result.andThen_ok, hi, Sem.run_pure, hs]
      rw [← hex]
    · cases h
/-- What is to be shown of a type, at a depth. -/
def EqFlat (P : Program) (d : Nat) (t : TypeId) (ls : List Leaf) : Prop :=
  ∀ D, d ≤ D → ∀ (w : World) (xs ys : List Value), fitAll ls xs = true → fitAll ls ys = true → (Op.equalIn D t (asVal P t xs) (asVal P t ys)).run P w = .ok (cellsEq xs ys) w
theorem eqItems_flat {d D : Nat} {e : TypeId} {l : List Leaf} (hl : layout P d e = some l) (IH : EqFlat P d e l) (hD : d ≤ D) (hc : P.cellsOf e = l.length) (xs ys : Array Value) :
    ∀ (m k : Nat), fitAll (List.replicate m l).flatten (xs.toList.drop (k * l.length)) = true → fitAll (List.replicate m l).flatten (ys.toList.drop (k * l.length)) = true →
      (Op.eqItems D e (P.cellsOf e) xs ys (List.range' k m)).run P w = .ok (cellsEq (xs.toList.drop (k * l.length)) (ys.toList.drop (k * l.length))) w
  | 0, k, hx, hy => by
    have h1 : xs.toList.drop (k * l.length) = [] := List.length_eq_zero_iff.1 (by simpa using fitAll_length hx)
    have h2 : ys.toList.drop (k * l.length) = [] := List.length_eq_zero_iff.1 (by simpa using fitAll_length hy)
    rw [h1, h2]
    simp [Op.eqItems, cellsEq]
  | m + 1, k, hx, hy => by
    rw [List.replicate_succ, List.flatten_cons] at hx hy
    obtain ⟨x1, x2⟩ := fitAll_append hx
    obtain ⟨y1, y2⟩ := fitAll_append hy
    have hk : k * l.length + l.length = (k + 1) * l.length := by rw [Nat.add_mul]; omega
    rw [List.drop_drop, hk] at x2 y2
    have ih := eqItems_flat hl IH hD hc xs ys m (k + 1) x2 y2
    have ex : xs.toList.drop (k * l.length) = (xs.toList.drop (k * l.length)).take l.length ++ xs.toList.drop ((k + 1) * l.length) := by
      rw [← hk, ← List.drop_drop, List.take_append_drop]
    have ey : ys.toList.drop (k * l.length) = (ys.toList.drop (k * l.length)).take l.length ++ ys.toList.drop ((k + 1) * l.length) := by
      rw [← hk, ← List.drop_drop, List.take_append_drop]
    rw [ex, ey, cellsEq_append _ _ _ _ ((fitAll_length x1).trans (fitAll_length y1).symm)]
    simp only [List.range'_succ, Op.eqItems, Sem.run_bind]
    rw [hc] at ih ⊢
    rw [run_part_flat w hl xs (k * l.length) x1, Result.andThen_ok, run_part_flat w hl ys (k * l.length) y1, Result.andThen_ok, IH D hD w _ _ x1 y1, Result.andThen_ok]
    cases cellsEq ((xs.toList.drop (k * l.length)).take l.length) ((ys.toList.drop (k * l.length)).take l.length)
    · simp
    · simp only [Bool.not_true, Bool.false_eq_true, if_false, Bool.true_and]
      exact ih
theorem eqFields_flat {d D : Nat} (hD : d ≤ D) (xs ys : Array Value) :
    ∀ (fs : List Field) (ls : List (List Leaf)) (o : Nat), fs.mapM (fun f => layout P d f.type) = some ls → offsOk fs ls o = true → (∀ f l, f ∈ fs → layout P d f.type = some l → EqFlat P d f.type l) →
      fitAll ls.flatten (xs.toList.drop o) = true → fitAll ls.flatten (ys.toList.drop o) = true →
      (Op.eqFields D xs ys fs).run P w = .ok (cellsEq (xs.toList.drop o) (ys.toList.drop o)) w
  | [], ls, o, hm, _, _, hx, hy => by
    simp at hm
    subst hm
    have h1 : xs.toList.drop o = [] := List.length_eq_zero_iff.1 (by simpa using fitAll_length hx)
    have h2 : ys.toList.drop o = [] := List.length_eq_zero_iff.1 (by simpa using fitAll_length hy)
    rw [h1, h2]
    simp [Op.eqFields, cellsEq]
  | f :: fs, ls, o, hm, ho, IH, hx, hy => by
    rw [List.mapM_cons] at hm
    simp only [bind, Option.bind_eq_some_iff, pure, Option.some.injEq] at hm
    obtain ⟨l, hl, ls', hls, rfl⟩ := hm
    simp only [offsOk, Bool.and_eq_true, bne_iff_ne, beq_iff_eq] at ho
    obtain ⟨⟨hn, hoff⟩, ho⟩ := ho
    rw [List.flatten_cons] at hx hy
    obtain ⟨x1, x2⟩ := fitAll_append hx
    obtain ⟨y1, y2⟩ := fitAll_append hy
    rw [List.drop_drop] at x2 y2
    have ih := eqFields_flat hD xs ys fs ls' (o + l.length) hls ho (fun g l' hg => IH g l' (by simp [hg])) x2 y2
    have ex : xs.toList.drop o = (xs.toList.drop o).take l.length ++ xs.toList.drop (o + l.length) := by rw [← List.drop_drop, List.take_append_drop]
    have ey : ys.toList.drop o = (ys.toList.drop o).take l.length ++ ys.toList.drop (o + l.length) := by rw [← List.drop_drop, List.take_append_drop]
    rw [ex, ey, cellsEq_append _ _ _ _ ((fitAll_length x1).trans (fitAll_length y1).symm)]
    simp only [Op.eqFields, hn, ne_eq, not_false_eq_true, if_true, Sem.run_bind]
    rw [hoff, run_part_flat w hl xs o x1, Result.andThen_ok, run_part_flat w hl ys o y1, Result.andThen_ok, IH f l (by simp) hl D hD w _ _ x1 y1, Result.andThen_ok]
    cases cellsEq ((xs.toList.drop o).take l.length) ((ys.toList.drop o).take l.length)
    · simp
    · simp only [Bool.not_true, Bool.false_eq_true, if_false, Bool.true_and]
      exact ih
end
theorem run_equalIn_flat {P : Program} : ∀ (d : Nat) (t : TypeId) (ls : List Leaf), layout P d t = some ls → EqFlat P d t ls
  | 0, t, ls, h => by simp [layout] at h
  | d + 1, t, ls, h => by
    intro D hD w xs ys hx hy
    obtain ⟨D, rfl⟩ : ∃ E, D = E + 1 := ⟨D - 1, by omega⟩
    have hD' : d ≤ D := by omega
    simp only [layout] at h
    unfold asVal isAggB
    split at h
    · rename_i hu
      split at h
      · cases h
        obtain ⟨x, rfl, fx⟩ := fit_one hx
        obtain ⟨y, rfl, fy⟩ := fit_one hy
        · obtain ⟨a, rfl⟩ := fits_bool fx
          obtain ⟨b, rfl⟩ := fits_bool fy
          simp [hu, Op.equalIn, run_underlying hu, cellsEq, cellEq]
      · cases h
    · rename_i hu
      split at h
      · cases h
        obtain ⟨x, rfl, fx⟩ := fit_one hx
        obtain ⟨y, rfl, fy⟩ := fit_one hy
        · obtain ⟨a, rfl⟩ := fits_int fx
          obtain ⟨b, rfl⟩ := fits_int fy
          simp [hu, Op.equalIn, run_underlying hu, cellsEq, cellEq]
      · cases h
    · rename_i n e hu
      simp only [Option.bind_eq_some_iff] at h
      obtain ⟨l, hl, h⟩ := h
      split at h
      · cases h
        obtain ⟨i, hi, hs⟩ := layout_info hl
        simp only [hu, if_true]
        rw [run_equalIn_array w D _ _ hu hi, List.range_eq_range']
        have := eqItems_flat w hl (run_equalIn_flat d e l hl) hD' (by simp [Program.cellsOf, hi, hs]) xs.toArray ys.toArray n 0 (by simpa using hx) (by simpa using hy)
        simpa using this
      · cases h
    · rename_i fs hu
      simp only [Option.bind_eq_some_iff] at h
      obtain ⟨l, hl, h⟩ := h
      split at h
      · rename_i hc
        cases h
        simp only [Bool.and_eq_true, Bool.not_eq_true'] at hc
        have hfs : P.fieldsOf t = fs := by simp [Program.fieldsOf, hu]
        simp only [hu, if_true]
        rw [run_equalIn_struct w D t _ _ (by rw [hfs]; exact hu) hc.2, hfs]
        have := eqFields_flat w hD' xs.toArray ys.toArray fs.toList l 0 hl hc.1.2 (fun f l' _ h' => run_equalIn_flat d f.type l' h') (by simpa using hx) (by simpa using hy)
        simpa using this
      · cases h
    · cases h
attribute [go_sem] cellsEq cellEq
/-- '==' of two values of such a type, as the walk meets it. -/
theorem eq_flat {P : Program} (t : TypeId) (d : Nat) (ls : List Leaf) (hl : layout P d t = some ls) (hd : d ≤ 10000) (ha : isAggB P t = true) (xs ys : List Value) (hx : fitAll ls xs = true) (hy : fitAll ls ys = true) (w : World) :
    (Op.equalIn 10000 t (.agg xs.toArray) (.agg ys.toArray)).run P w = .ok (cellsEq xs ys) w := by
  have h := run_equalIn_flat d t ls hl 10000 hd w xs ys hx hy
  unfold asVal at h
  simpa [ha] using h
end Go
end

section
namespace Go
open Go.RowKit
theorem bcell {W w1 : World} (hb : Below W.heap.size W w1) : (∀ b o, b < W.heap.size → w1.cell? ⟨b, o, none⟩ = W.cell? ⟨b, o, none⟩) ∧ (∀ b o, b < W.heap.size → w1.frozen? ⟨b, o, none⟩ = W.frozen? ⟨b, o, none⟩) :=
  ⟨fun b o h => hb.cell (p := ⟨b, o, none⟩) h, fun b o h => hb.frozen (p := ⟨b, o, none⟩) h⟩
theorem alloc_at (w : World) (o : Obj) : (w.alloc o).heap[w.heap.size]? = some o := by show (w.heap.push o)[w.heap.size]? = _; simp
/-- U: what stands in each operation's slot. -/
def fillPuts : List Oper → (Nat → Value) → Nat → Act → Act
  | [], _, _, a => a
  | o :: l, U, i, a => fillPuts l U (i + 1) (a.put o.dst (U i))
def updU (U : Nat → Value) (i : Nat) (v : Value) : Nat → Value := fun j => if j = i then v else U j
def maskU (S : List Nat) (U : Nat → Value) : Nat → Value := fun j => if S.contains j then U j else undef
def predsOf (o : Oper) : List Nat := o.after.toList.filterMap fun e => if Region.binds .any e then some e.on else none
def slotOf (a : Act) (dst : Option Tmp) : Value := match dst with | some d => a.tmps.getD d undef | none => undef
abbrev RelU := (Nat → Value) → World → Prop
def HypsU (Rs : List RelU) (U : Nat → Value) (w : World) : List Nat → Prop
  | [] => True
  | p :: ps => (Rs.getD p fun _ _ => True) U w ∧ HypsU Rs U w ps
def AllU (U : Nat → Value) (w : World) : List RelU → Prop
  | [] => True
  | r :: rs => r U w ∧ AllU U w rs
def InvPost (T : World → World → Prop) (d : List Deferred) (w : World) (dst : Option Tmp) (G : Value → World → Prop) (e : Exit) (a' : Act) (w' : World) : Prop :=
  e = .normal ∧ a'.defers = d ∧ T w w' ∧ G (slotOf a' dst) w'
/-- The block that a value points into. -/
def blkOf : Value → Option Nat
  | .pointer (some a) => some a.block
  | .slice (some a) _ _ => some a.block
  | .map (some m) => some m
  | _ => none
/-- A value that points into a block made between two worlds. -/
def FreshV (v : Value) (w w' : World) : Prop := ∃ p, blkOf v = some p ∧ w.heap.size ≤ p ∧ p < w'.heap.size
/-- The fresh values differ. -/
def ApartF (F : List Nat) (U : Nat → Value) : Prop := ∀ i j, F.contains i = true → F.contains j = true → i ≠ j → blkOf (U i) ≠ blkOf (U j)
section
variable {P : Program} {ops : Array Oper}
/-- The walk: for each operation of the head what holds of its value. -/
def wpInv (P : Program) (ops : Array Oper) (F : List Nat) (C : World → Prop) (T : World → World → Prop) (hd : List Oper) (a0 : Act) (fin : (Nat → Value) → World → Prop) : Nat → List RelU → List Oper → Prop
  | _, Rs, [] => ∀ U w, C w → AllU U w Rs → ApartF F U → fin U w
  | i, Rs, o :: rest => ∃ r : RelU, (∀ U w, r U w = r (maskU (i :: predsOf o) U) w) ∧ (∀ U w w', C w → T w w' → r U w → r U w') ∧
      (∀ U w, C w → HypsU Rs U w (predsOf o) → wpList P ops (InvPost T a0.defers w o.dst fun v w' => r (updU U i v) w' ∧ (F.contains i = true → FreshV v w w')) [o] (fillPuts hd U 0 a0) w) ∧
      wpInv P ops F C T hd a0 fin (i + 1) (Rs ++ [r]) rest
theorem fillPuts_defers : ∀ (l : List Oper) (U : Nat → Value) (i : Nat) (a : Act), (fillPuts l U i a).defers = a.defers
  | [], _, _, _ => rfl
  | o :: l, U, i, a => by
    rw [fillPuts, fillPuts_defers l]
    unfold Act.put; split <;> rfl
theorem Act.put_put (a : Act) (d : Option Tmp) (u v : Value) : (a.put d u).put d v = a.put d v := by
  unfold Act.put
  cases d with
  | none => rfl
  | some d => simp
/-- No slot is written twice. -/
def distinctDst : List Oper → Bool
  | [] => true
  | o :: l => (match o.dst with | some d => l.all (fun p => p.dst != some d) | none => true) && distinctDst l
theorem put_fill_comm {d : Option Tmp} {v : Value} : ∀ (l : List Oper) (U : Nat → Value) (i : Nat) (a : Act), (∀ t, d = some t → l.all (fun p => p.dst != some t) = true) →
    fillPuts l U i (a.put d v) = (fillPuts l U i a).put d v
  | [], _, _, _, _ => rfl
  | o :: l, U, i, a, h => by
    simp only [fillPuts]
    rw [← put_fill_comm l U (i + 1) (a.put o.dst (U i)) (fun t ht => by
      have := h t ht
      simp only [List.all_cons, Bool.and_eq_true] at this
      exact this.2)]
    congr 1
    refine Act.put_comm a v (U i) ?_
    intro t ht ht2
    have := h t ht
    simp only [List.all_cons, Bool.and_eq_true, bne_iff_ne, ne_eq] at this
    exact this.1 ht2
theorem fillPuts_upd_lt : ∀ (l : List Oper) (U : Nat → Value) (k i : Nat) (v : Value) (a : Act), k < i → fillPuts l (updU U k v) i a = fillPuts l U i a
  | [], _, _, _, _, _, _ => rfl
  | o :: l, U, k, i, v, a, h => by
    simp only [fillPuts]
    rw [fillPuts_upd_lt l U k (i + 1) v _ (by omega)]
    have : updU U k v i = U i := by unfold updU; rw [if_neg (by omega)]
    rw [this]
theorem fillPuts_put : ∀ (l : List Oper) (U : Nat → Value) (i k : Nat) (o : Oper) (v : Value) (a : Act), distinctDst l = true → l[k]? = some o →
    (fillPuts l U i a).put o.dst v = fillPuts l (updU U (i + k) v) i a
  | [], _, _, _, _, _, _, _, h => by simp at h
  | p :: l, U, i, 0, o, v, a, hd, h => by
    obtain rfl : p = o := by simpa using h
    simp only [distinctDst, Bool.and_eq_true] at hd
    simp only [fillPuts, Nat.add_zero]
    rw [fillPuts_upd_lt l U i (i + 1) v _ (by omega), ← put_fill_comm l U (i + 1) _ (fun t ht => by have := hd.1; rw [ht] at this; simpa using this), Act.put_put]
    have : updU U i v i = v := by unfold updU; rw [if_pos rfl]
    rw [this]
  | p :: l, U, i, k + 1, o, v, a, hd, h => by
    simp only [distinctDst, Bool.and_eq_true] at hd
    simp only [fillPuts]
    rw [fillPuts_put l U (i + 1) k o v _ hd.2 (by simpa using h), show i + 1 + k = i + (k + 1) by omega]
    have : updU U (i + (k + 1)) v i = U i := by unfold updU; rw [if_neg (by omega)]
    rw [this]
theorem put_slot (a : Act) (d : Option Tmp) (v : Value) : a.put d (slotOf (a.put d v) d) = a.put d v := by
  cases d with
  | none => rfl
  | some d =>
    simp only [Act.put, slotOf]
    by_cases h : d < a.tmps.size
    · simp [h]
    · rw [Array.setIfInBounds_eq_of_size_le (Nat.le_of_not_lt h), Array.setIfInBounds_eq_of_size_le (Nat.le_of_not_lt h)]
theorem updU_eq (U : Nat → Value) (i : Nat) (v : Value) : updU U i v i = v := by unfold updU; rw [if_pos rfl]
theorem maskU_upd {S : List Nat} {U : Nat → Value} {i : Nat} {v : Value} (h : S.contains i = false) : maskU S (updU U i v) = maskU S U := by
  funext j
  unfold maskU updU
  by_cases e : j = i
  · subst e; rw [h]; rfl
  · rw [if_neg e]
theorem wpOp_of_list_inv {i : Nat} {o : Oper} {K : Act → World → Prop} {Q : Exit → Act → World → Prop} {a : Act} {w : World} {T : World → World → Prop} {d : List Deferred} {G : Value → World → Prop}
    (hi : ops[i]? = some o) (hd : a.defers = d)
    (hK : ∀ v w', T w w' → G (slotOf (a.put o.dst v) o.dst) w' → K (a.put o.dst v) w')
    (h : wpList P ops (InvPost T d w o.dst G) [o] a w) : wpOp P ops Q i K a w := by
  have hQ : ∀ v w', InvPost T d w o.dst G .normal (a.put o.dst v) w' → K (a.put o.dst v) w' := fun v w' h => hK v w' h.2.2.1 h.2.2.2
  have hF : ¬ LetsOut (InvPost T d w o.dst G) := by
    rintro ⟨a1, w1, h1⟩
    exact absurd h1.1 (by simp)
  unfold wpOp
  simp only [hi]
  unfold wpList at h
  split
  · rename_i hw
    rw [if_pos hw] at h
    rcases h with h | ⟨_, h⟩
    · refine .inl ?_
      unfold Oper.wp at *
      generalize (execOp a.eval o).run P w = r at *
      cases r with
      | ok n w' =>
        cases n <;> simp only [Oper.upon] at h ⊢
        case value u => exact hQ _ _ h
        case skip => exact hQ _ _ h
        case defer c =>
          have h2 : (({ a with defers := c :: a.defers } : Act).put o.dst undef).defers = d := h.2.1
          have h3 : (({ a with defers := c :: a.defers } : Act).put o.dst undef).defers = c :: a.defers := by unfold Act.put; split <;> rfl
          rw [h3, ← hd] at h2
          exact absurd (congrArg List.length h2) (by simp)
        case enter f args =>
          refine Calls.mono h fun e w'' he => ?_
          cases e with
          | returned u => exact hQ _ _ he
          | panicked c => exact absurd he.1 (by simp)
          | outgrown => exact absurd he hF
        case row row args => exact Rows.mono h fun u w'' he => hQ _ _ he
      | halt x w' =>
        cases x <;> simp only [Oper.upon] at h ⊢
        case panic u => exact absurd h.1 (by simp)
    · exact absurd h hF
  · rename_i hw
    rw [if_neg hw] at h
    exact hQ _ _ h
theorem wpList_post {o : Oper} {a : Act} {w : World} {T : World → World → Prop} {d : List Deferred} {dst : Option Tmp} {G G' : Value → World → Prop}
    (hG : ∀ a' w', InvPost T d w dst G .normal a' w' → InvPost T d w dst G' .normal a' w') (h : wpList P ops (InvPost T d w dst G) [o] a w) : wpList P ops (InvPost T d w dst G') [o] a w := by
  have hF : ¬ LetsOut (InvPost T d w dst G) := by
    rintro ⟨a1, w1, h1⟩
    exact absurd h1.1 (by simp)
  unfold wpList at h ⊢
  split
  · rename_i hw
    rw [if_pos hw] at h
    rcases h with h | ⟨_, h⟩
    · refine .inl ?_
      unfold Oper.wp at *
      generalize (execOp a.eval o).run P w = r at *
      cases r with
      | ok n w' =>
        cases n <;> simp only [Oper.upon] at h ⊢
        case value u => exact hG _ _ h
        case skip => exact hG _ _ h
        case defer c => exact hG _ _ h
        case enter f args =>
          refine Calls.mono h fun e w'' he => ?_
          cases e with
          | returned u => exact hG _ _ he
          | panicked c => exact absurd he.1 (by simp)
          | outgrown => exact absurd he hF
        case row row args => exact Rows.mono h fun u w'' he => hG _ _ he
      | halt x w' =>
        cases x <;> simp only [Oper.upon] at h ⊢
        case panic u => exact absurd h.1 (by simp)
    · exact absurd h hF
  · rename_i hw
    rw [if_neg hw] at h
    exact hG _ _ h
/-- Every edge leads back. -/
def backB (ops : Array Oper) : Bool := (List.range ops.size).all fun i => ((ops[i]?).map fun o => o.after.all fun e => !Region.binds .any e || decide (e.on < i)).getD true
def seqAfter (ops : Array Oper) (n : Nat) : Bool := Region.seqB .any ops (ops.size - n) n ((List.range ops.size).map fun i => decide (i < n)).toArray
def invB (ops : Array Oper) (n : Nat) : Bool :=
  decide (n < ops.size) && Region.sinkB .any ops n && Region.chainB .any ops n && backB ops && distinctDst (ops.toList.take n) && seqAfter ops n
theorem backB_spec (h : backB ops = true) {i : Nat} {o : Oper} (ho : ops[i]? = some o) : ∀ e ∈ o.after, Region.binds .any e = true → e.on < i := by
  intro e he hb
  have hlt : i < ops.size := (Array.getElem?_eq_some_iff.1 ho).1
  have h1 := List.all_eq_true.1 h i (List.mem_range.2 hlt)
  rw [ho] at h1
  simp only [Option.map_some, Option.getD_some, Array.all_eq_true_iff_forall_mem, Bool.or_eq_true, Bool.not_eq_true', decide_eq_true_eq] at h1
  rcases h1 e he with h2 | h2
  · rw [hb] at h2; cases h2
  · exact h2
theorem of_mem_predsOf {o : Oper} {p : Nat} (h : p ∈ predsOf o) : ∃ e ∈ o.after, Region.binds .any e = true ∧ e.on = p := by
  unfold predsOf at h
  rw [List.mem_filterMap] at h
  obtain ⟨e, he, h2⟩ := h
  split at h2
  · rename_i hb
    exact ⟨e, by simpa using he, hb, by simpa using h2⟩
  · cases h2
/-- What is known of a head: each operation's relation, that it looks at no other's value, that it stays, and its step. -/
structure HeadOK (P : Program) (ops : Array Oper) (F : List Nat) (C : World → Prop) (T : World → World → Prop) (hd : List Oper) (a0 : Act) (Rs : List RelU) : Prop where
  len : Rs.length = hd.length
  loc : ∀ j o, hd[j]? = some o → ∀ U w, (Rs.getD j fun _ _ => True) U w = (Rs.getD j fun _ _ => True) (maskU (j :: predsOf o) U) w
  stay : ∀ j U w w', C w → T w w' → (Rs.getD j fun _ _ => True) U w → (Rs.getD j fun _ _ => True) U w'
  step : ∀ j o, hd[j]? = some o → ∀ U w, C w → HypsU Rs U w (predsOf o) → wpList P ops (InvPost T a0.defers w o.dst fun v w' => (Rs.getD j fun _ _ => True) (updU U j v) w' ∧ (F.contains j = true → FreshV v w w')) [o] (fillPuts hd U 0 a0) w
theorem hypsU_append {Rs : List RelU} {more : List RelU} {U : Nat → Value} {w : World} : ∀ (ps : List Nat), (∀ p ∈ ps, p < Rs.length) → HypsU (Rs ++ more) U w ps → HypsU Rs U w ps
  | [], _, _ => trivial
  | p :: ps, hl, h => by
    refine ⟨?_, hypsU_append ps (fun q hq => hl q (by simp [hq])) h.2⟩
    have := h.1
    rwa [List.getD_eq_getElem?_getD, List.getElem?_append_left (hl p (by simp)), ← List.getD_eq_getElem?_getD] at this
theorem wpInv_ok {F : List Nat} {C : World → Prop} {T : World → World → Prop} {hd : List Oper} {a0 : Act} {fin : (Nat → Value) → World → Prop}
    (hback : ∀ j o, hd[j]? = some o → ∀ p ∈ predsOf o, p < j) :
    ∀ (rest : List Oper) (i : Nat) (Rs : List RelU), Rs.length = i → hd.drop i = rest → i ≤ hd.length →
      (∀ j o, j < i → hd[j]? = some o → ∀ U w, (Rs.getD j fun _ _ => True) U w = (Rs.getD j fun _ _ => True) (maskU (j :: predsOf o) U) w) →
      (∀ j U w w', j < i → C w → T w w' → (Rs.getD j fun _ _ => True) U w → (Rs.getD j fun _ _ => True) U w') →
      (∀ j o, j < i → hd[j]? = some o → ∀ U w, C w → HypsU Rs U w (predsOf o) → wpList P ops (InvPost T a0.defers w o.dst fun v w' => (Rs.getD j fun _ _ => True) (updU U j v) w' ∧ (F.contains j = true → FreshV v w w')) [o] (fillPuts hd U 0 a0) w) →
      wpInv P ops F C T hd a0 fin i Rs rest → ∃ Rs', HeadOK P ops F C T hd a0 Rs' ∧ ∀ U w, C w → AllU U w Rs' → ApartF F U → fin U w
  | [], i, Rs, hl, hdrop, hle, h1, h2, h3, h => by
    have hi : hd.length = i := by
      have := congrArg List.length hdrop
      simp at this
      omega
    refine ⟨Rs, ⟨by omega, fun j o hj => h1 j o (by rw [← hi]; exact (List.getElem?_eq_some_iff.1 hj).1) hj, fun j U w w' => ?_, fun j o hj => h3 j o (by rw [← hi]; exact (List.getElem?_eq_some_iff.1 hj).1) hj⟩, h⟩
    by_cases hj : j < i
    · exact h2 j U w w' hj
    · intro _ _ _
      rw [List.getD_eq_getElem?_getD, List.getElem?_eq_none (by omega)]
      trivial
  | o :: rest, i, Rs, hl, hdrop, hle, h1, h2, h3, h => by
    obtain ⟨r, ha, hb, hc, hn⟩ := h
    have hoi : hd[i]? = some o := by
      have := congrArg (fun l => l[0]?) hdrop
      simpa using this
    have hlt : i < hd.length := (List.getElem?_eq_some_iff.1 hoi).1
    have gl : ∀ j, j < i → (Rs ++ [r]).getD j (fun _ _ => True) = Rs.getD j (fun _ _ => True) := fun j hj => by
      rw [List.getD_eq_getElem?_getD, List.getElem?_append_left (by omega), ← List.getD_eq_getElem?_getD]
    have gi : (Rs ++ [r]).getD i (fun _ _ => True) = r := by
      rw [List.getD_eq_getElem?_getD, List.getElem?_append_right (by omega)]
      simp [hl]
    refine wpInv_ok hback rest (i + 1) (Rs ++ [r]) (by simp [hl]) ?_ (by omega) ?_ ?_ ?_ hn
    · rw [← List.drop_drop, hdrop]; rfl
    · intro j p hj hp U w
      by_cases e : j = i
      · subst e
        rw [gi]
        obtain rfl : p = o := Option.some.inj (hp.symm.trans hoi)
        exact ha U w
      · rw [gl j (by omega)]; exact h1 j p (by omega) hp U w
    · intro j U w w' hj
      by_cases e : j = i
      · subst e; rw [gi]; exact hb U w w'
      · rw [gl j (by omega)]; exact h2 j U w w' (by omega)
    · intro j p hj hp U w hC hH
      have hp' : ∀ q ∈ predsOf p, q < Rs.length := fun q hq => by have := hback j p hp q hq; omega
      have hH' := hypsU_append (predsOf p) hp' hH
      by_cases e : j = i
      · subst e
        rw [gi]
        obtain rfl : p = o := Option.some.inj (hp.symm.trans hoi)
        exact hc U w hC hH'
      · rw [gl j (by omega)]
        exact h3 j p (by omega) hp U w hC hH'
theorem hypsU_of {Rs : List RelU} {U : Nat → Value} {w : World} : ∀ (ps : List Nat), (∀ p ∈ ps, (Rs.getD p fun _ _ => True) U w) → HypsU Rs U w ps
  | [], _ => trivial
  | p :: ps, h => ⟨h p (by simp), hypsU_of ps fun q hq => h q (by simp [hq])⟩
theorem allU_of {U : Nat → Value} {w : World} : ∀ (Rs : List RelU), (∀ j, j < Rs.length → (Rs.getD j fun _ _ => True) U w) → AllU U w Rs
  | [], _ => trivial
  | r :: rs, h => ⟨by simpa using h 0 (by simp), allU_of rs fun j hj => by simpa using h (j + 1) (by simpa using hj)⟩
theorem wpAny_of_inv {F : List Nat} {C : World → Prop} {T : World → World → Prop} {n : Nat} {a0 : Act} {Rs : List RelU} {Q : Exit → Act → World → Prop} {l : List Oper} (hops : ops = l.toArray) (hB : invB ops n = true)
    (hCT : ∀ w w', C w → T w w' → C w') (hTs : ∀ w w', T w w' → w.heap.size ≤ w'.heap.size) (hFn : F.all (fun i => decide (i < n)) = true) (hOK : HeadOK P ops F C T (l.take n) a0 Rs)
    (hfin : ∀ U w, C w → AllU U w Rs → ApartF F U → wpList P ops Q (l.drop n) (fillPuts (l.take n) U 0 a0) w) :
    ∀ (f : Nat) (L : List Nat) (listed : Array Bool) (U : Nat → Value) (w : World), L.Nodup → L.length = f → (∀ j, j ∈ L ↔ j < n ∧ listed.getD j true = false) → HeadInv .any ops n listed → C w →
      (∀ j, j < n → listed.getD j false = true → (Rs.getD j fun _ _ => True) U w) → (∀ j, F.contains j = true → listed.getD j false = true → ∃ p, blkOf (U j) = some p ∧ p < w.heap.size) →
      (∀ i j, F.contains i = true → F.contains j = true → i ≠ j → listed.getD i false = true → listed.getD j false = true → blkOf (U i) ≠ blkOf (U j)) → wpAny P .any ops Q (f + (ops.size - n)) listed (fillPuts (l.take n) U 0 a0) w := by
  simp only [invB, Bool.and_eq_true, decide_eq_true_eq] at hB
  obtain ⟨⟨⟨⟨⟨hn, hs⟩, hc⟩, hback⟩, hdist⟩, hseq⟩ := hB
  have hlen : (l.take n).length = n := by subst hops; simp at hn ⊢; omega
  have hdl : (l.drop n).length = ops.size - n := by subst hops; simp
  intro f
  induction f with
  | zero =>
    intro L listed U w hnd hL hmem inv hC hR hFb hFd
    have hL0 : L = [] := List.length_eq_zero_iff.1 hL
    subst hL0
    have hall : ∀ j, j < n → listed.getD j true = true := fun j hj => by
      cases h : listed.getD j true with
      | true => rfl
      | false => exact absurd ((hmem j).2 ⟨hj, h⟩) (by simp)
    have hlisted : listed = ((List.range ops.size).map fun i => decide (i < n)).toArray := by
      apply Array.ext
      · simp [inv.size]
      · intro i h1 h2
        simp only [List.getElem_toArray, List.getElem_map, List.getElem_range]
        by_cases hi : i < n
        · have := hall i hi
          simp [h1] at this
          simp [this, hi]
        · have := inv.tail i (by omega) (by rw [← inv.size]; exact h1)
          simp [h1] at this
          simp [this, hi]
    rw [Nat.zero_add, ← hdl]
    refine wpAny_of_seq (l.drop n) n listed _ w (fun j => by subst hops; simp [List.getElem?_drop]) (by rw [hdl, hlisted]; exact hseq) ?_
    have hallf : ∀ j, j < n → listed.getD j false = true := fun j hjn => by
      have := hall j hjn
      have hjs : j < listed.size := by rw [inv.size]; omega
      simp [hjs] at this ⊢
      exact this
    have hFn' : ∀ j, F.contains j = true → j < n := fun j hj => by
      have := List.all_eq_true.1 hFn j (List.contains_iff_mem.1 hj)
      simpa using this
    refine hfin U w hC (allU_of Rs fun j hj => hR j (by rw [hOK.len, hlen] at hj; exact hj) (hallf j (by rw [hOK.len, hlen] at hj; exact hj))) (fun i j hi hj hij => hFd i j hi hj hij (hallf i (hFn' i hi)) (hallf j (hFn' j hj)))
  | succ f ih =>
    intro L listed U w hnd hL hmem inv hC hR hFb hFd
    have hne : L ≠ [] := fun h => by subst h; simp at hL
    obtain ⟨i0, hi0⟩ := List.exists_mem_of_ne_nil L hne
    obtain ⟨hi0n, hi0u⟩ := (hmem i0).1 hi0
    -- the least one that is not listed may come up
    have hready : Region.ready .any ops listed ≠ [] := by
      have key : ∀ (d i : Nat), i ≤ d → i < n → listed.getD i true = false → Region.ready .any ops listed ≠ [] := by
        intro d
        induction d with
        | zero =>
          intro i hid hin hiu
          have hi : i = 0 := by omega
          subst hi
          have hlt : 0 < ops.size := by omega
          intro h
          have : 0 ∈ Region.ready .any ops listed := mem_ready.2 ⟨hiu, ops[0], by simp [hlt], fun e he hb => absurd (backB_spec hback (i := 0) (by simp [hlt]) e he hb) (by omega)⟩
          rw [h] at this; cases this
        | succ d ihd =>
          intro i hid hin hiu
          have hlt : i < ops.size := by omega
          by_cases hex : ∃ e ∈ ops[i].after, Region.binds .any e = true ∧ listed.getD e.on false = false
          · obtain ⟨e, he, hb, hu⟩ := hex
            have hlt2 := backB_spec hback (i := i) (by simp [hlt]) e he hb
            exact ihd e.on (by omega) (by omega) (getD_in (by rw [inv.size]; omega) hu)
          · intro h
            have : i ∈ Region.ready .any ops listed := mem_ready.2 ⟨hiu, ops[i], by simp [hlt], fun e he hb => by
              cases h' : listed.getD e.on false with
              | true => rfl
              | false => exact absurd ⟨e, he, hb, h'⟩ hex⟩
            rw [h] at this; cases this
      exact key i0 i0 (Nat.le_refl _) hi0n hi0u
    rw [show f + 1 + (ops.size - n) = (f + (ops.size - n)) + 1 by omega]
    refine ⟨fun h => absurd h hready, fun i hi => ?_⟩
    obtain ⟨hiu, o, ho, hall⟩ := mem_ready.1 hi
    have hin : i < n := by
      rcases Nat.lt_or_ge i n with h | h
      · exact h
      · exact absurd hi (tail_waits hs hc hn inv _ i0 rfl hi0n hi0u i h)
    have hio : (l.take n)[i]? = some o := by
      subst hops
      rw [List.getElem?_take_of_lt hin]
      simpa using ho
    have hp : ∀ p ∈ predsOf o, p < n ∧ listed.getD p false = true := fun p hp => by
      obtain ⟨e, he, hb, rfl⟩ := of_mem_predsOf hp
      have := backB_spec hback ho e he hb
      exact ⟨by omega, hall e he hb⟩
    have hstep := hOK.step i o hio U w hC (hypsU_of _ fun p hpp => hR p (hp p hpp).1 (hp p hpp).2)
    refine wpOp_of_list_inv ho (fillPuts_defers _ _ _ _) (fun v w' hT hG => ?_) hstep
    have hC' := hCT w w' hC hT
    rw [← put_slot, fillPuts_put (l.take n) U 0 i o _ a0 (by subst hops; simpa using hdist) hio, Nat.zero_add]
    refine ih (L.erase i) (listed.setIfInBounds i true) _ w' (hnd.erase i) (by rw [List.length_erase_of_mem ((hmem i).2 ⟨hin, hiu⟩), hL]; rfl) (fun j => ?_) (inv.set hi hin) hC' (fun j hj hjl => ?_) ?_ ?_
    · rw [hnd.mem_erase_iff, hmem j]
      by_cases e : i = j
      · subst e
        constructor
        · rintro ⟨h, _⟩; exact absurd rfl h
        · rintro ⟨_, h⟩
          have hsz : i < listed.size := by rw [inv.size]; omega
          simp [hsz] at h
      · rw [getD_set_ne true e]
        constructor
        · rintro ⟨_, h⟩; exact h
        · intro h; exact ⟨fun h' => e h'.symm, h⟩
    · by_cases e : i = j
      · subst e; exact hG.1
      · rw [getD_set_ne false e] at hjl
        have hj1 := hOK.stay j U w w' hC hT (hR j hj hjl)
        have hjs : j < ops.size := by omega
        obtain ⟨oj, hoj⟩ : ∃ oj, ops[j]? = some oj := ⟨ops[j], by simp [hjs]⟩
        have hjo : (l.take n)[j]? = some oj := by
          subst hops
          rw [List.getElem?_take_of_lt hj]
          simpa using hoj
        have hni : (j :: predsOf oj).contains i = false := by
          rw [Bool.eq_false_iff]
          intro h
          rcases List.mem_cons.1 (List.contains_iff_mem.1 h) with h | h
          · exact e h
          · obtain ⟨e', he', hb', rfl⟩ := of_mem_predsOf h
            have := inv.closed j oj hoj hjl e' he' hb'
            rw [getD_both hiu] at this
            cases this
        rw [hOK.loc j oj hjo, maskU_upd hni, ← hOK.loc j oj hjo]
        exact hj1
    · intro j hj hjl
      by_cases e : i = j
      · subst e
        obtain ⟨p, hp1, _, hp2⟩ := hG.2 hj
        exact ⟨p, by rw [updU_eq]; exact hp1, hp2⟩
      · rw [getD_set_ne false e] at hjl
        obtain ⟨p, hp1, hp2⟩ := hFb j hj hjl
        refine ⟨p, ?_, Nat.lt_of_lt_of_le hp2 (hTs _ _ hT)⟩
        have : updU U i (slotOf (fillPuts (l.take n) U 0 a0 |>.put o.dst v) o.dst) j = U j := by unfold updU; rw [if_neg (fun h => e h.symm)]
        rw [this]; exact hp1
    · intro j k hj hk hjk hjl hkl
      have old : ∀ q, i ≠ q → updU U i (slotOf (fillPuts (l.take n) U 0 a0 |>.put o.dst v) o.dst) q = U q := fun q e => by unfold updU; rw [if_neg (fun h => e h.symm)]
      by_cases e : i = j
      · subst e
        have e2 : i ≠ k := hjk
        rw [getD_set_ne false e2] at hkl
        obtain ⟨p, hp1, hp2, _⟩ := hG.2 hj
        obtain ⟨q, hq1, hq2⟩ := hFb k hk hkl
        rw [updU_eq, old k e2, hp1, hq1]
        intro h
        have := Option.some.inj h
        omega
      · rw [getD_set_ne false e] at hjl
        by_cases e2 : i = k
        · subst e2
          obtain ⟨p, hp1, hp2, _⟩ := hG.2 hk
          obtain ⟨q, hq1, hq2⟩ := hFb j hj hjl
          rw [updU_eq, old j e, hp1, hq1]
          intro h
          have := Option.some.inj h
          omega
        · rw [getD_set_ne false e2] at hkl
          rw [old j e, old k e2]
          exact hFd j k hj hk hjk hjl hkl
/-- An operation whose value hangs on the values ahead of it alone. -/
theorem wpInv_det {F : List Nat} {C : World → Prop} {T : World → World → Prop} {hd : List Oper} {a0 : Act} {fin : (Nat → Value) → World → Prop} {i : Nat} {Rs : List RelU} {o : Oper} {rest : List Oper} (hp : (predsOf o).contains i = false) (hF : F.contains i = false)
    (h : ∃ f : (Nat → Value) → Value, (∀ U w, C w → HypsU Rs U w (predsOf o) → wpList P ops (InvPost T a0.defers w o.dst fun v _ => v = f U) [o] (fillPuts hd U 0 a0) w) ∧
      (∀ U, f U = f (maskU (predsOf o) U)) ∧ wpInv P ops F C T hd a0 fin (i + 1) (Rs ++ [fun U _ => U i = f U]) rest) : wpInv P ops F C T hd a0 fin i Rs (o :: rest) := by
  obtain ⟨f, h1, h2, h3⟩ := h
  have e1 : ∀ U, maskU (predsOf o) (maskU (i :: predsOf o) U) = maskU (predsOf o) U := fun U => by
    funext j
    unfold maskU
    by_cases hj : (predsOf o).contains j = true
    · rw [if_pos hj, if_pos hj, if_pos (by simp at hj ⊢; exact .inr hj)]
    · rw [if_neg hj, if_neg hj]
  refine ⟨fun U _ => U i = f U, fun U w => ?_, fun _ _ _ _ _ h => h, fun U w hC hH => ?_, h3⟩
  · have e2 : maskU (i :: predsOf o) U i = U i := by unfold maskU; rw [if_pos (by simp)]
    have e3 : f (maskU (i :: predsOf o) U) = f U := by rw [h2, e1, ← h2]
    show (U i = f U) = (maskU (i :: predsOf o) U i = f (maskU (i :: predsOf o) U))
    rw [e2, e3]
  · refine wpList_post (fun a' w' hq => ?_) (h1 U w hC hH)
    refine ⟨hq.1, hq.2.1, hq.2.2.1, ?_, fun h => by rw [hF] at h; cases h⟩
    have hq4 := hq.2.2.2
    show updU U i (slotOf a' o.dst) i = f (updU U i (slotOf a' o.dst))
    rw [updU_eq, hq4, h2 (updU U i (f U)), maskU_upd hp, ← h2]
/-- What stands in the slots at the beginning. -/
theorem fillPuts_start : ∀ (l : List Oper) (i : Nat) (a : Act), ∃ U, fillPuts l U i a = a
  | [], _, a => ⟨fun _ => undef, rfl⟩
  | o :: l, i, a => by
    obtain ⟨U, hU⟩ := fillPuts_start l (i + 1) a
    refine ⟨updU U i (slotOf a o.dst), ?_⟩
    simp only [fillPuts, updU_eq]
    rw [fillPuts_upd_lt l U i (i + 1) _ _ (by omega)]
    have : a.put o.dst (slotOf a o.dst) = a := by
      unfold Act.put slotOf
      cases o.dst with
      | none => rfl
      | some d =>
        simp only
        by_cases h : d < a.tmps.size
        · obtain ⟨tm, df⟩ := a
          congr 1
          apply Array.ext
          · simp
          · intro k h1 h2
            rw [Array.getElem_setIfInBounds]
            split
            · rename_i e; subst e; simp
            · rfl
        · rw [Array.setIfInBounds_eq_of_size_le (Nat.le_of_not_lt h)]
    rw [this]
    exact hU
theorem wp_region_inv {id : Nat} {Q : Exit → Act → World → Prop} {a : Act} {w : World} {l : List Oper} (F : List Nat) (C : World → Prop) (T : World → World → Prop) (n : Nat) (hm : P.follows .mixedOrders = true) (hB : invB l.toArray n = true)
    (hFn : F.all (fun i => decide (i < n)) = true) (hC : C w.drew) (hCT : ∀ w w', C w → T w w' → C w') (hTs : ∀ w w', T w w' → w.heap.size ≤ w'.heap.size)
    (h : wpInv P l.toArray F C T (l.take n) a (fun U w => wpList P l.toArray Q (l.drop n) (fillPuts (l.take n) U 0 a) w) 0 [] (l.take n)) : (Code.region id l.toArray true).wp P Q a w := by
  refine wp_region_any hm ?_
  have hB' := hB
  simp only [invB, Bool.and_eq_true, decide_eq_true_eq] at hB'
  obtain ⟨⟨⟨⟨⟨hn, hs⟩, hc⟩, hback⟩, hdist⟩, hseq⟩ := hB'
  have hn' : n < l.length := by simpa using hn
  obtain ⟨Rs, hOK, hfin⟩ := wpInv_ok (P := P) (hd := l.take n) (fun j o hj p hp => by
    obtain ⟨e, he, hb, rfl⟩ := of_mem_predsOf hp
    have hjn : j < n := by have := (List.getElem?_eq_some_iff.1 hj).1; simp at this; omega
    rw [List.getElem?_take_of_lt hjn] at hj
    exact backB_spec hback (i := j) (by simpa using hj) e he hb) (l.take n) 0 [] rfl rfl (by omega) (fun j o hj => absurd hj (by omega)) (fun j U w w' hj => absurd hj (by omega)) (fun j o hj => absurd hj (by omega)) h
  obtain ⟨U, hU⟩ := fillPuts_start (l.take n) 0 a
  have := wpAny_of_inv (P := P) (Q := Q) rfl hB hCT hTs hFn hOK hfin n (List.range n) (Array.replicate l.toArray.size false) U { w with drawn := w.drawn + 1 } List.nodup_range (by simp) (fun j => by
      rw [List.mem_range]
      constructor
      · intro hj
        exact ⟨hj, getD_in (by simp; omega) (getD_replicate_false _ _)⟩
      · exact fun h => h.1)
    ⟨by simp, fun j oj _ hl => (by rw [getD_replicate_false] at hl; cases hl), fun t _ ht => getD_in (by simpa using ht) (getD_replicate_false _ _)⟩ hC (fun j _ hl => by rw [getD_replicate_false] at hl; cases hl) (fun j _ hl => by rw [getD_replicate_false] at hl; cases hl) (fun i j _ _ _ hl => by rw [getD_replicate_false] at hl; cases hl)
  rw [hU] at this
  have e : n + (l.toArray.size - n) = l.toArray.size := by omega
  rwa [e] at this
end
end Go
end

section
namespace Go.RI
open Go Go.RowKit
section
variable {P : Program} {ops : Array Oper}
/-- The walk: for each operation of the head what holds of its value. -/
def wpInv (P : Program) (ops : Array Oper) (F : List Nat) (C : (Nat → Bool) → World → Prop) (T : Nat → World → World → Prop) (hd : List Oper) (a0 : Act) (fin : (Nat → Value) → World → Prop) : Nat → List RelU → List Oper → Prop
  | i, Rs, [] => ∀ D U w, (∀ k, k < i → D k = true) → C D w → AllU U w Rs → ApartF F U → fin U w
  | i, Rs, o :: rest => ∃ r : RelU, (∀ U w, r U w = r (maskU (i :: predsOf o) U) w) ∧ (∀ k D U w w', k ≠ i → D k = false → C D w → T k w w' → r U w → r U w') ∧
      (∀ D U w, D i = false → C D w → HypsU Rs U w (predsOf o) → wpList P ops (InvPost (T i) a0.defers w o.dst fun v w' => r (updU U i v) w' ∧ (F.contains i = true → FreshV v w w')) [o] (fillPuts hd U 0 a0) w) ∧
      wpInv P ops F C T hd a0 fin (i + 1) (Rs ++ [r]) rest
/-- What is known of a head: each operation's relation, that it looks at no other's value, that it stays, and its step. -/
structure HeadOK (P : Program) (ops : Array Oper) (F : List Nat) (C : (Nat → Bool) → World → Prop) (T : Nat → World → World → Prop) (hd : List Oper) (a0 : Act) (Rs : List RelU) : Prop where
  len : Rs.length = hd.length
  loc : ∀ j o, hd[j]? = some o → ∀ U w, (Rs.getD j fun _ _ => True) U w = (Rs.getD j fun _ _ => True) (maskU (j :: predsOf o) U) w
  stay : ∀ k j D U w w', k ≠ j → D k = false → C D w → T k w w' → (Rs.getD j fun _ _ => True) U w → (Rs.getD j fun _ _ => True) U w'
  step : ∀ j o, hd[j]? = some o → ∀ D U w, D j = false → C D w → HypsU Rs U w (predsOf o) → wpList P ops (InvPost (T j) a0.defers w o.dst fun v w' => (Rs.getD j fun _ _ => True) (updU U j v) w' ∧ (F.contains j = true → FreshV v w w')) [o] (fillPuts hd U 0 a0) w
theorem wpInv_ok {F : List Nat} {C : (Nat → Bool) → World → Prop} {T : Nat → World → World → Prop} {hd : List Oper} {a0 : Act} {fin : (Nat → Value) → World → Prop}
    (hback : ∀ j o, hd[j]? = some o → ∀ p ∈ predsOf o, p < j) :
    ∀ (rest : List Oper) (i : Nat) (Rs : List RelU), Rs.length = i → hd.drop i = rest → i ≤ hd.length →
      (∀ j o, j < i → hd[j]? = some o → ∀ U w, (Rs.getD j fun _ _ => True) U w = (Rs.getD j fun _ _ => True) (maskU (j :: predsOf o) U) w) →
      (∀ k j D U w w', j < i → k ≠ j → D k = false → C D w → T k w w' → (Rs.getD j fun _ _ => True) U w → (Rs.getD j fun _ _ => True) U w') →
      (∀ j o, j < i → hd[j]? = some o → ∀ D U w, D j = false → C D w → HypsU Rs U w (predsOf o) → wpList P ops (InvPost (T j) a0.defers w o.dst fun v w' => (Rs.getD j fun _ _ => True) (updU U j v) w' ∧ (F.contains j = true → FreshV v w w')) [o] (fillPuts hd U 0 a0) w) →
      wpInv P ops F C T hd a0 fin i Rs rest → ∃ Rs', HeadOK P ops F C T hd a0 Rs' ∧ ∀ D U w, (∀ k, k < hd.length → D k = true) → C D w → AllU U w Rs' → ApartF F U → fin U w
  | [], i, Rs, hl, hdrop, hle, h1, h2, h3, h => by
    have hi : hd.length = i := by
      have := congrArg List.length hdrop
      simp at this
      omega
    refine ⟨Rs, ⟨by omega, fun j o hj => h1 j o (by rw [← hi]; exact (List.getElem?_eq_some_iff.1 hj).1) hj, fun k j D U w w' => ?_, fun j o hj => h3 j o (by rw [← hi]; exact (List.getElem?_eq_some_iff.1 hj).1) hj⟩, fun D U w hD => h D U w (fun k hk => hD k (by omega))⟩
    by_cases hj : j < i
    · exact h2 k j D U w w' hj
    · intro _ _ _ _ _
      rw [List.getD_eq_getElem?_getD, List.getElem?_eq_none (by omega)]
      trivial
  | o :: rest, i, Rs, hl, hdrop, hle, h1, h2, h3, h => by
    obtain ⟨r, ha, hb, hc, hn⟩ := h
    have hoi : hd[i]? = some o := by
      have := congrArg (fun l => l[0]?) hdrop
      simpa using this
    have hlt : i < hd.length := (List.getElem?_eq_some_iff.1 hoi).1
    have gl : ∀ j, j < i → (Rs ++ [r]).getD j (fun _ _ => True) = Rs.getD j (fun _ _ => True) := fun j hj => by
      rw [List.getD_eq_getElem?_getD, List.getElem?_append_left (by omega), ← List.getD_eq_getElem?_getD]
    have gi : (Rs ++ [r]).getD i (fun _ _ => True) = r := by
      rw [List.getD_eq_getElem?_getD, List.getElem?_append_right (by omega)]
      simp [hl]
    refine wpInv_ok hback rest (i + 1) (Rs ++ [r]) (by simp [hl]) ?_ (by omega) ?_ ?_ ?_ hn
    · rw [← List.drop_drop, hdrop]; rfl
    · intro j p hj hp U w
      by_cases e : j = i
      · subst e
        rw [gi]
        obtain rfl : p = o := Option.some.inj (hp.symm.trans hoi)
        exact ha U w
      · rw [gl j (by omega)]; exact h1 j p (by omega) hp U w
    · intro k j D U w w' hj
      by_cases e : j = i
      · subst e; rw [gi]; exact hb k D U w w'
      · rw [gl j (by omega)]; exact h2 k j D U w w' (by omega)
    · intro j p hj hp D U w hDj hC hH
      have hp' : ∀ q ∈ predsOf p, q < Rs.length := fun q hq => by have := hback j p hp q hq; omega
      have hH' := hypsU_append (predsOf p) hp' hH
      by_cases e : j = i
      · subst e
        rw [gi]
        obtain rfl : p = o := Option.some.inj (hp.symm.trans hoi)
        exact hc D U w hDj hC hH'
      · rw [gl j (by omega)]
        exact h3 j p (by omega) hp D U w hDj hC hH'
theorem wpAny_of_inv {F : List Nat} {C : (Nat → Bool) → World → Prop} {T : Nat → World → World → Prop} {n : Nat} {a0 : Act} {Rs : List RelU} {Q : Exit → Act → World → Prop} {l : List Oper} (hops : ops = l.toArray) (hB : invB ops n = true)
    (hCT : ∀ k D w w', D k = false → C D w → T k w w' → C (fun j => if j = k then true else D j) w') (hTs : ∀ k w w', T k w w' → w.heap.size ≤ w'.heap.size) (hFn : F.all (fun i => decide (i < n)) = true) (hOK : HeadOK P ops F C T (l.take n) a0 Rs)
    (hfin : ∀ D U w, (∀ k, k < n → D k = true) → C D w → AllU U w Rs → ApartF F U → wpList P ops Q (l.drop n) (fillPuts (l.take n) U 0 a0) w) :
    ∀ (f : Nat) (L : List Nat) (listed : Array Bool) (U : Nat → Value) (w : World), L.Nodup → L.length = f → (∀ j, j ∈ L ↔ j < n ∧ listed.getD j true = false) → HeadInv .any ops n listed → C (fun k => listed.getD k false) w →
      (∀ j, j < n → listed.getD j false = true → (Rs.getD j fun _ _ => True) U w) → (∀ j, F.contains j = true → listed.getD j false = true → ∃ p, blkOf (U j) = some p ∧ p < w.heap.size) →
      (∀ i j, F.contains i = true → F.contains j = true → i ≠ j → listed.getD i false = true → listed.getD j false = true → blkOf (U i) ≠ blkOf (U j)) → wpAny P .any ops Q (f + (ops.size - n)) listed (fillPuts (l.take n) U 0 a0) w := by
  simp only [invB, Bool.and_eq_true, decide_eq_true_eq] at hB
  obtain ⟨⟨⟨⟨⟨hn, hs⟩, hc⟩, hback⟩, hdist⟩, hseq⟩ := hB
  have hlen : (l.take n).length = n := by subst hops; simp at hn ⊢; omega
  have hdl : (l.drop n).length = ops.size - n := by subst hops; simp
  intro f
  induction f with
  | zero =>
    intro L listed U w hnd hL hmem inv hC hR hFb hFd
    have hL0 : L = [] := List.length_eq_zero_iff.1 hL
    subst hL0
    have hall : ∀ j, j < n → listed.getD j true = true := fun j hj => by
      cases h : listed.getD j true with
      | true => rfl
      | false => exact absurd ((hmem j).2 ⟨hj, h⟩) (by simp)
    have hlisted : listed = ((List.range ops.size).map fun i => decide (i < n)).toArray := by
      apply Array.ext
      · simp [inv.size]
      · intro i h1 h2
        simp only [List.getElem_toArray, List.getElem_map, List.getElem_range]
        by_cases hi : i < n
        · have := hall i hi
          simp [h1] at this
          simp [this, hi]
        · have := inv.tail i (by omega) (by rw [← inv.size]; exact h1)
          simp [h1] at this
          simp [this, hi]
    rw [Nat.zero_add, ← hdl]
    refine wpAny_of_seq (l.drop n) n listed _ w (fun j => by subst hops; simp [List.getElem?_drop]) (by rw [hdl, hlisted]; exact hseq) ?_
    have hallf : ∀ j, j < n → listed.getD j false = true := fun j hjn => by
      have := hall j hjn
      have hjs : j < listed.size := by rw [inv.size]; omega
      simp [hjs] at this ⊢
      exact this
    have hFn' : ∀ j, F.contains j = true → j < n := fun j hj => by
      have := List.all_eq_true.1 hFn j (List.contains_iff_mem.1 hj)
      simpa using this
    refine hfin _ U w hallf hC (allU_of Rs fun j hj => hR j (by rw [hOK.len, hlen] at hj; exact hj) (hallf j (by rw [hOK.len, hlen] at hj; exact hj))) (fun i j hi hj hij => hFd i j hi hj hij (hallf i (hFn' i hi)) (hallf j (hFn' j hj)))
  | succ f ih =>
    intro L listed U w hnd hL hmem inv hC hR hFb hFd
    have hne : L ≠ [] := fun h => by subst h; simp at hL
    obtain ⟨i0, hi0⟩ := List.exists_mem_of_ne_nil L hne
    obtain ⟨hi0n, hi0u⟩ := (hmem i0).1 hi0
    -- the least one that is not listed may come up
    have hready : Region.ready .any ops listed ≠ [] := by
      have key : ∀ (d i : Nat), i ≤ d → i < n → listed.getD i true = false → Region.ready .any ops listed ≠ [] := by
        intro d
        induction d with
        | zero =>
          intro i hid hin hiu
          have hi : i = 0 := by omega
          subst hi
          have hlt : 0 < ops.size := by omega
          intro h
          have : 0 ∈ Region.ready .any ops listed := mem_ready.2 ⟨hiu, ops[0], by simp [hlt], fun e he hb => absurd (backB_spec hback (i := 0) (by simp [hlt]) e he hb) (by omega)⟩
          rw [h] at this; cases this
        | succ d ihd =>
          intro i hid hin hiu
          have hlt : i < ops.size := by omega
          by_cases hex : ∃ e ∈ ops[i].after, Region.binds .any e = true ∧ listed.getD e.on false = false
          · obtain ⟨e, he, hb, hu⟩ := hex
            have hlt2 := backB_spec hback (i := i) (by simp [hlt]) e he hb
            exact ihd e.on (by omega) (by omega) (getD_in (by rw [inv.size]; omega) hu)
          · intro h
            have : i ∈ Region.ready .any ops listed := mem_ready.2 ⟨hiu, ops[i], by simp [hlt], fun e he hb => by
              cases h' : listed.getD e.on false with
              | true => rfl
              | false => exact absurd ⟨e, he, hb, h'⟩ hex⟩
            rw [h] at this; cases this
      exact key i0 i0 (Nat.le_refl _) hi0n hi0u
    rw [show f + 1 + (ops.size - n) = (f + (ops.size - n)) + 1 by omega]
    refine ⟨fun h => absurd h hready, fun i hi => ?_⟩
    obtain ⟨hiu, o, ho, hall⟩ := mem_ready.1 hi
    have hin : i < n := by
      rcases Nat.lt_or_ge i n with h | h
      · exact h
      · exact absurd hi (tail_waits hs hc hn inv _ i0 rfl hi0n hi0u i h)
    have hio : (l.take n)[i]? = some o := by
      subst hops
      rw [List.getElem?_take_of_lt hin]
      simpa using ho
    have hp : ∀ p ∈ predsOf o, p < n ∧ listed.getD p false = true := fun p hp => by
      obtain ⟨e, he, hb, rfl⟩ := of_mem_predsOf hp
      have := backB_spec hback ho e he hb
      exact ⟨by omega, hall e he hb⟩
    have hstep := hOK.step i o hio _ U w (getD_both hiu) hC (hypsU_of _ fun p hpp => hR p (hp p hpp).1 (hp p hpp).2)
    refine wpOp_of_list_inv ho (fillPuts_defers _ _ _ _) (fun v w' hT hG => ?_) hstep
    have hC' := hCT i _ w w' (getD_both hiu) hC hT
    have hDe : (fun j => if j = i then true else listed.getD j false) = fun k => (listed.setIfInBounds i true).getD k false := by
      funext j
      by_cases e : i = j
      · subst e
        have hsz : i < listed.size := by rw [inv.size]; omega
        simp [hsz]
      · rw [if_neg (fun h => e h.symm), getD_set_ne false e]
    rw [hDe] at hC'
    rw [← put_slot, fillPuts_put (l.take n) U 0 i o _ a0 (by subst hops; simpa using hdist) hio, Nat.zero_add]
    refine ih (L.erase i) (listed.setIfInBounds i true) _ w' (hnd.erase i) (by rw [List.length_erase_of_mem ((hmem i).2 ⟨hin, hiu⟩), hL]; rfl) (fun j => ?_) (inv.set hi hin) hC' (fun j hj hjl => ?_) ?_ ?_
    · rw [hnd.mem_erase_iff, hmem j]
      by_cases e : i = j
      · subst e
        constructor
        · rintro ⟨h, _⟩; exact absurd rfl h
        · rintro ⟨_, h⟩
          have hsz : i < listed.size := by rw [inv.size]; omega
          simp [hsz] at h
      · rw [getD_set_ne true e]
        constructor
        · rintro ⟨_, h⟩; exact h
        · intro h; exact ⟨fun h' => e h'.symm, h⟩
    · by_cases e : i = j
      · subst e; exact hG.1
      · rw [getD_set_ne false e] at hjl
        have hj1 := hOK.stay i j _ U w w' e (getD_both hiu) hC hT (hR j hj hjl)
        have hjs : j < ops.size := by omega
        obtain ⟨oj, hoj⟩ : ∃ oj, ops[j]? = some oj := ⟨ops[j], by simp [hjs]⟩
        have hjo : (l.take n)[j]? = some oj := by
          subst hops
          rw [List.getElem?_take_of_lt hj]
          simpa using hoj
        have hni : (j :: predsOf oj).contains i = false := by
          rw [Bool.eq_false_iff]
          intro h
          rcases List.mem_cons.1 (List.contains_iff_mem.1 h) with h | h
          · exact e h
          · obtain ⟨e', he', hb', rfl⟩ := of_mem_predsOf h
            have := inv.closed j oj hoj hjl e' he' hb'
            rw [getD_both hiu] at this
            cases this
        rw [hOK.loc j oj hjo, maskU_upd hni, ← hOK.loc j oj hjo]
        exact hj1
    · intro j hj hjl
      by_cases e : i = j
      · subst e
        obtain ⟨p, hp1, _, hp2⟩ := hG.2 hj
        exact ⟨p, by rw [updU_eq]; exact hp1, hp2⟩
      · rw [getD_set_ne false e] at hjl
        obtain ⟨p, hp1, hp2⟩ := hFb j hj hjl
        refine ⟨p, ?_, Nat.lt_of_lt_of_le hp2 (hTs _ _ _ hT)⟩
        have : updU U i (slotOf (fillPuts (l.take n) U 0 a0 |>.put o.dst v) o.dst) j = U j := by unfold updU; rw [if_neg (fun h => e h.symm)]
        rw [this]; exact hp1
    · intro j k hj hk hjk hjl hkl
      have old : ∀ q, i ≠ q → updU U i (slotOf (fillPuts (l.take n) U 0 a0 |>.put o.dst v) o.dst) q = U q := fun q e => by unfold updU; rw [if_neg (fun h => e h.symm)]
      by_cases e : i = j
      · subst e
        have e2 : i ≠ k := hjk
        rw [getD_set_ne false e2] at hkl
        obtain ⟨p, hp1, hp2, _⟩ := hG.2 hj
        obtain ⟨q, hq1, hq2⟩ := hFb k hk hkl
        rw [updU_eq, old k e2, hp1, hq1]
        intro h
        have := Option.some.inj h
        omega
      · rw [getD_set_ne false e] at hjl
        by_cases e2 : i = k
        · subst e2
          obtain ⟨p, hp1, hp2, _⟩ := hG.2 hk
          obtain ⟨q, hq1, hq2⟩ := hFb j hj hjl
          rw [updU_eq, old j e, hp1, hq1]
          intro h
          have := Option.some.inj h
          omega
        · rw [getD_set_ne false e2] at hkl
          rw [old j e, old k e2]
          exact hFd j k hj hk hjk hjl hkl
/-- An operation whose value hangs on the values ahead of it alone. -/
theorem wpInv_det {F : List Nat} {C : (Nat → Bool) → World → Prop} {T : Nat → World → World → Prop} {hd : List Oper} {a0 : Act} {fin : (Nat → Value) → World → Prop} {i : Nat} {Rs : List RelU} {o : Oper} {rest : List Oper} (hp : (predsOf o).contains i = false) (hF : F.contains i = false)
    (h : ∃ f : (Nat → Value) → Value, (∀ D U w, D i = false → C D w → HypsU Rs U w (predsOf o) → wpList P ops (InvPost (T i) a0.defers w o.dst fun v _ => v = f U) [o] (fillPuts hd U 0 a0) w) ∧
      (∀ U, f U = f (maskU (predsOf o) U)) ∧ wpInv P ops F C T hd a0 fin (i + 1) (Rs ++ [fun U _ => U i = f U]) rest) : wpInv P ops F C T hd a0 fin i Rs (o :: rest) := by
  obtain ⟨f, h1, h2, h3⟩ := h
  have e1 : ∀ U, maskU (predsOf o) (maskU (i :: predsOf o) U) = maskU (predsOf o) U := fun U => by
    funext j
    unfold maskU
    by_cases hj : (predsOf o).contains j = true
    · rw [if_pos hj, if_pos hj, if_pos (by simp at hj ⊢; exact .inr hj)]
    · rw [if_neg hj, if_neg hj]
  refine ⟨fun U _ => U i = f U, fun U w => ?_, fun _ _ _ _ _ _ _ _ _ h => h, fun D U w hDi hC hH => ?_, h3⟩
  · have e2 : maskU (i :: predsOf o) U i = U i := by unfold maskU; rw [if_pos (by simp)]
    have e3 : f (maskU (i :: predsOf o) U) = f U := by rw [h2, e1, ← h2]
    show (U i = f U) = (maskU (i :: predsOf o) U i = f (maskU (i :: predsOf o) U))
    rw [e2, e3]
  · refine wpList_post (T := T i) (fun a' w' hq => ?_) (h1 D U w hDi hC hH)
    refine ⟨hq.1, hq.2.1, hq.2.2.1, ?_, fun h => by rw [hF] at h; cases h⟩
    have hq4 := hq.2.2.2
    show updU U i (slotOf a' o.dst) i = f (updU U i (slotOf a' o.dst))
    rw [updU_eq, hq4, h2 (updU U i (f U)), maskU_upd hp, ← h2]
theorem wp_region_inv {id : Nat} {Q : Exit → Act → World → Prop} {a : Act} {w : World} {l : List Oper} (F : List Nat) (C : (Nat → Bool) → World → Prop) (T : Nat → World → World → Prop) (n : Nat) (hm : P.follows .mixedOrders = true) (hB : invB l.toArray n = true)
    (hFn : F.all (fun i => decide (i < n)) = true) (hC : C (fun _ => false) w.drew) (hCT : ∀ k D w w', D k = false → C D w → T k w w' → C (fun j => if j = k then true else D j) w') (hTs : ∀ k w w', T k w w' → w.heap.size ≤ w'.heap.size)
    (h : wpInv P l.toArray F C T (l.take n) a (fun U w => wpList P l.toArray Q (l.drop n) (fillPuts (l.take n) U 0 a) w) 0 [] (l.take n)) : (Code.region id l.toArray true).wp P Q a w := by
  refine wp_region_any hm ?_
  have hB' := hB
  simp only [invB, Bool.and_eq_true, decide_eq_true_eq] at hB'
  obtain ⟨⟨⟨⟨⟨hn, hs⟩, hc⟩, hback⟩, hdist⟩, hseq⟩ := hB'
  have hn' : n < l.length := by simpa using hn
  obtain ⟨Rs, hOK, hfin⟩ := wpInv_ok (P := P) (hd := l.take n) (fun j o hj p hp => by
    obtain ⟨e, he, hb, rfl⟩ := of_mem_predsOf hp
    have hjn : j < n := by have := (List.getElem?_eq_some_iff.1 hj).1; simp at this; omega
    rw [List.getElem?_take_of_lt hjn] at hj
    exact backB_spec hback (i := j) (by simpa using hj) e he hb) (l.take n) 0 [] rfl rfl (by omega) (fun j o hj => absurd hj (by omega)) (fun k j D U w w' hj => absurd hj (by omega)) (fun j o hj => absurd hj (by omega)) h
  obtain ⟨U, hU⟩ := fillPuts_start (l.take n) 0 a
  have := wpAny_of_inv (P := P) (Q := Q) rfl hB hCT hTs hFn hOK (fun D U w hD => hfin D U w (fun k hk => hD k (by simp at hk; omega))) n (List.range n) (Array.replicate l.toArray.size false) U { w with drawn := w.drawn + 1 } List.nodup_range (by simp) (fun j => by
      rw [List.mem_range]
      constructor
      · intro hj
        exact ⟨hj, getD_in (by simp; omega) (getD_replicate_false _ _)⟩
      · exact fun h => h.1)
    ⟨by simp, fun j oj _ hl => (by rw [getD_replicate_false] at hl; cases hl), fun t _ ht => getD_in (by simpa using ht) (getD_replicate_false _ _)⟩ (by
      have e : (fun k => (Array.replicate l.toArray.size false).getD k false) = fun _ => false := funext fun k => getD_replicate_false _ _
      rw [e]; exact hC) (fun j _ hl => by rw [getD_replicate_false] at hl; cases hl) (fun j _ hl => by rw [getD_replicate_false] at hl; cases hl) (fun i j _ _ _ hl => by rw [getD_replicate_false] at hl; cases hl)
  rw [hU] at this
  have e : n + (l.toArray.size - n) = l.toArray.size := by omega
  rwa [e] at this
end
end Go.RI
end

section
namespace Go.Proofs.YtmcjbejccelagaaDoor
open Go.RowKit Go.BigFrame
set_option linter.unusedSimpArgs false
theorem append_src {P : Program} {ops : Array Oper} {rest : List Oper} {o : Oper} {a : Act} {Q : Exit → Act → World → Prop} {w : World} (hgd : o.guard = none) (s x : Operand) (t : TypeId)
    (ho : o.op = .call { callee := .builtin .append, args := #[s, x], argTypes := #[t, t] })
    (base : Nat) (e e' : TypeId) (z : Value) (size bytes : Nat) (ht : P.underlying t = some (.slice e)) (hi : (P.info? e).map (fun i => (i.zero, i.size, i.bytes)) = some (some z, size, bytes))
    (hzs : z.cells.size = size) (hsz : 0 < size)
    (v : Value) (n : Nat) (xs : List Value) (hs : a.eval s = v) (hown : w.ownsRow base e size v n xs)
    (q : Nat) (news : List Value) (hx : a.eval x = .slice (some ⟨q, 0, none⟩) 1 1) (hq : w.heap[q]? = some (.cells news.toArray e' (0, 0))) (hl : news.length = size) (h1 : ∀ u ∈ news, u.oneCell' = true)
    (h63 : n + 1 ≤ maxLen) (hbytes : (n + 1) * bytes ≤ 140737488355328) (hbase : base ≤ w.heap.size)
    (h : ∀ v' w', w'.ownsRow base e size v' (n + 1) (xs ++ news) → w.grownBy w' v.ownBlock → (v'.ownBlock = v.ownBlock ∨ v'.ownBlock = some w.heap.size) → wpList P ops Q rest (a.put o.dst v') w') :
    wpList P ops Q (o :: rest) a w := by
  obtain ⟨i0, hi0, hz0, hz1, hz2⟩ := info_parts hi
  refine wpList_append_own_at (w := w) hgd s x t ho base e i0 z size bytes ht hi0 hz0 hz1 hz2 hzs hsz v n xs hs hown ⟨q, 0, none⟩ 1 1 news hx (by omega) ?_ h1 h63 hbytes hbase (fun v' w' h2 h3 _ h5 => h v' w' h2 h3 h5)
  intro j u hj
  have : (⟨q, 0, none⟩ : Addr).add j = ⟨q, j, none⟩ := by unfold Addr.add; split <;> simp_all
  rw [this]
  unfold World.cell?
  rw [hq]
  simpa using hj
/-- All that was there stays, but two blocks. -/
structure But2 (o1 o2 : Option Nat) (w w' : World) : Prop where
  os : w'.os = w.os
  tape : w'.tape = w.tape
  output : w'.output = w.output
  size : w.heap.size ≤ w'.heap.size
  block : ∀ k, k < w.heap.size → some k ≠ o1 → some k ≠ o2 → w'.heap[k]? = w.heap[k]?
/-- Two appends to rows of one's own, in one statement. -/
def TA (ox oy : Option Nat) (i : Nat) (W W' : World) : Prop := W.grownBy W' (if i = 4 then ox else if i = 9 then oy else none)
theorem TA.of_below {ox oy : Option Nat} {i : Nat} {W W' : World} (h : Below W.heap.size W W') : TA ox oy i W W' := ⟨h.os, h.tape, h.output, h.size, fun k hk _ => h.block k hk⟩
theorem But2.step {ox oy : Option Nat} {i : Nat} {G W W' : World} (h : But2 ox oy G W) (hT : TA ox oy i W W') : But2 ox oy G W' := by
  unfold TA at hT
  refine ⟨hT.os.trans h.os, hT.tape.trans h.tape, hT.output.trans h.output, Nat.le_trans h.size hT.size, fun k hk h1 h2 => ?_⟩
  refine (hT.block k (Nat.lt_of_lt_of_le hk h.size) ?_).trans (h.block k hk h1 h2)
  split
  · exact h1
  · split
    · exact h2
    · simp
theorem But2.own {o1 o2 : Option Nat} {G W : World} {base : Nat} {e : TypeId} {size n : Nat} {v : Value} {xs : List Value} (h : But2 o1 o2 G W) (ho : G.ownsRow base e size v n xs) (h1 : v.ownBlock = none ∨ v.ownBlock ≠ o1) (h2 : v.ownBlock = none ∨ v.ownBlock ≠ o2) : W.ownsRow base e size v n xs := by
  refine ⟨ho.1, ?_⟩
  rcases ho.2 with hn | ⟨g, cap, cur, rfl, hb, hgg, rest⟩
  · exact .inl hn
  · have e : (Value.slice (some ⟨g, 0, none⟩) n cap).ownBlock = some g := rfl
    rw [e] at h1 h2
    refine .inr ⟨g, cap, cur, rfl, hb, (h.block g (Array.getElem?_eq_some_iff.1 hgg).1 ?_ ?_).trans hgg, rest⟩
    · exact h1.resolve_left (by simp)
    · exact h2.resolve_left (by simp)
theorem But2.below {o1 o2 : Option Nat} {G W : World} {B : Nat} (h : But2 o1 o2 G W) (h1 : ∀ k, o1 = some k → B ≤ k) (h2 : ∀ k, o2 = some k → B ≤ k) (hs : B ≤ G.heap.size) : Below B G W :=
  ⟨h.os, h.tape, h.output, h.size, fun k hk => h.block k (by omega) (fun e => by have := h1 k e.symm; omega) (fun e => by have := h2 k e.symm; omega)⟩
theorem own_lt' {w : World} {base : Nat} {e : TypeId} {size n : Nat} {v : Value} {xs : List Value} (h : w.ownsRow base e size v n xs) (k : Nat) (hk : v.ownBlock = some k) : base ≤ k ∧ k < w.heap.size := h.lt k hk
end Go.Proofs.YtmcjbejccelagaaDoor
end

section
namespace Go.Proofs.YtmcjbejccelagaaDoor
open Go.RowKit Go.BigFrame
set_option linter.unusedSimpArgs false
abbrev RightP (s c : Int) : Prop := 0 ≤ s ∧ s < 3 ∧ 1 ≤ c ∧ c ≤ 2
def bandsF (s c : Int) : Int := if RightP s c then 3 + s else 0
def widL : List Int := [2, 2, 4, 8, 16]
abbrev WidthW (w : World) : Prop := TabW 0 5 .i64 widL w
theorem WidthW.at {w : World} (h : WidthW w) (j : Int) (h0 : 0 ≤ j) (h1 : j < 5) : w.cell? ⟨0, j.toNat, none⟩ = some (.int .i64 (widL.getD j.toNat 0)) := h.2 j.toNat (by omega)
theorem modeRight (s c : Int) (w : World) : Calls Tryd.prog 40 #[.agg #[.int .i64 s, .int .i64 c]] w fun e w' => e = .returned (.bool (decide (RightP s c))) ∧ Below w.heap.size w w' := by
  by_cases h0 : 0 ≤ s
  · skip
    by_cases h1 : s < 3
    · skip
      by_cases h2 : 1 ≤ c
      · skip
        by_cases h3 : c ≤ 2
        · skip
          go_enter Tryd.func40, Tryd.ntmps40
          go_wp2
          go_ret
          exact ⟨ret_bool (by first | rfl | (simp; done) | (simp; omega)), by (repeat' (first | (with_reducible exact Below.refl _ _) | (with_reducible assumption) | (with_reducible refine Below.alloc ?_ ?_ _) | (with_reducible refine below_grew ?_ ?_ _) | (with_reducible refine Below.setCell ?_ ?_ _) | (with_reducible refine Below.drew ?_) | (with_reducible refine below_drewN ?_ _) | omega | (simp; done) | (simp; omega)))⟩
        · skip
          go_enter Tryd.func40, Tryd.ntmps40
          go_wp2
          go_ret
          exact ⟨ret_bool (by first | rfl | (simp; done) | (simp; omega)), by (repeat' (first | (with_reducible exact Below.refl _ _) | (with_reducible assumption) | (with_reducible refine Below.alloc ?_ ?_ _) | (with_reducible refine below_grew ?_ ?_ _) | (with_reducible refine Below.setCell ?_ ?_ _) | (with_reducible refine Below.drew ?_) | (with_reducible refine below_drewN ?_ _) | omega | (simp; done) | (simp; omega)))⟩
      · skip
        go_enter Tryd.func40, Tryd.ntmps40
        go_wp2
        go_ret
        exact ⟨ret_bool (by first | rfl | (simp; done) | (simp; omega)), by (repeat' (first | (with_reducible exact Below.refl _ _) | (with_reducible assumption) | (with_reducible refine Below.alloc ?_ ?_ _) | (with_reducible refine below_grew ?_ ?_ _) | (with_reducible refine Below.setCell ?_ ?_ _) | (with_reducible refine Below.drew ?_) | (with_reducible refine below_drewN ?_ _) | omega | (simp; done) | (simp; omega)))⟩
    · skip
      go_enter Tryd.func40, Tryd.ntmps40
      go_wp2
      go_ret
      exact ⟨ret_bool (by first | rfl | (simp; done) | (simp; omega)), by (repeat' (first | (with_reducible exact Below.refl _ _) | (with_reducible assumption) | (with_reducible refine Below.alloc ?_ ?_ _) | (with_reducible refine below_grew ?_ ?_ _) | (with_reducible refine Below.setCell ?_ ?_ _) | (with_reducible refine Below.drew ?_) | (with_reducible refine below_drewN ?_ _) | omega | (simp; done) | (simp; omega)))⟩
  · skip
    go_enter Tryd.func40, Tryd.ntmps40
    go_wp2
    go_ret
    exact ⟨ret_bool (by first | rfl | (simp; done) | (simp; omega)), by (repeat' (first | (with_reducible exact Below.refl _ _) | (with_reducible assumption) | (with_reducible refine Below.alloc ?_ ?_ _) | (with_reducible refine below_grew ?_ ?_ _) | (with_reducible refine Below.setCell ?_ ?_ _) | (with_reducible refine Below.drew ?_) | (with_reducible refine below_drewN ?_ _) | omega | (simp; done) | (simp; omega)))⟩
theorem modeBands (s c : Int) (w : World) : Calls Tryd.prog 37 #[.agg #[.int .i64 s, .int .i64 c]] w fun e w' => e = .returned (.int .i64 (bandsF s c)) ∧ Below w.heap.size w w' := by
  have hr := Lib.hid (fun w => modeRight s c w)
  by_cases h : RightP s c
  · have E := Lib.hid (show bandsF s c = 3 + s from by unfold bandsF; rw [if_pos h])
    rw [decide_eq_true h] at hr
    obtain ⟨h1, h2, _, _⟩ := h
    go_enter Tryd.func37, Tryd.ntmps37
    go_wp2_with (go_at_call 40; refine (hr.out _).mono ?_; rintro e w' ⟨rfl, hb1⟩; obtain ⟨x1, rfl⟩ := below_as_grew hb1; clear hb1)
    go_ret
    exact ⟨ret_int E.out.symm, by (repeat' (first | (with_reducible exact Below.refl _ _) | (with_reducible assumption) | (with_reducible refine Below.alloc ?_ ?_ _) | (with_reducible refine below_grew ?_ ?_ _) | (with_reducible refine Below.setCell ?_ ?_ _) | (with_reducible refine Below.drew ?_) | (with_reducible refine below_drewN ?_ _) | omega | (simp; done) | (simp; omega)))⟩
  · have E := Lib.hid (show bandsF s c = 0 from by unfold bandsF; rw [if_neg h])
    rw [decide_eq_false h] at hr
    clear h
    go_enter Tryd.func37, Tryd.ntmps37
    go_wp2_with (go_at_call 40; refine (hr.out _).mono ?_; rintro e w' ⟨rfl, hb1⟩; obtain ⟨x1, rfl⟩ := below_as_grew hb1; clear hb1)
    go_ret
    exact ⟨ret_int E.out.symm, by (repeat' (first | (with_reducible exact Below.refl _ _) | (with_reducible assumption) | (with_reducible refine Below.alloc ?_ ?_ _) | (with_reducible refine below_grew ?_ ?_ _) | (with_reducible refine Below.setCell ?_ ?_ _) | (with_reducible refine Below.drew ?_) | (with_reducible refine below_drewN ?_ _) | omega | (simp; done) | (simp; omega)))⟩
end Go.Proofs.YtmcjbejccelagaaDoor
end

section
namespace Go.Proofs.YtmcjbejccelagaaDoor
open Go.RowKit Go.BigFrame Go.Proofs.YtmcjbejccelagaaDoorW.PrintWords Go.Proofs.YtmcjbejccelagaaDoorW.PrintLast Go.Proofs.YtmcjbejccelagaaDoorW.PrintMore
open PStateLoses RStateLoses
set_option linter.unusedSimpArgs false
set_option linter.unusedVariables false
def fadL : List Int := [0, 29491, 22937, 13107, 4915]
abbrev FadeW (w : World) : Prop := TabW 2 5 .i32 fadL w
theorem FadeW.at {w : World} (h : FadeW w) (j : Int) (h0 : 0 ≤ j) (h1 : j < 5) : w.cell? ⟨2, j.toNat, none⟩ = some (.int .i32 (fadL.getD j.toNat 0)) := h.2 j.toNat (by omega)
theorem fadL_eq (n : Int) (h0 : 0 ≤ n) (h1 : n < 5) : fadL.getD n.toNat 0 = fadeF n := by
  have h5 : ∀ i : Fin 5, fadL.getD i.val 0 = fadeF (i.val : Int) := by decide
  have := h5 ⟨n.toNat, by omega⟩
  simp only at this
  rw [this, Int.toNat_of_nonneg h0]
theorem fade_any (n : Int) (w : World) (hT : FadeW w) : Calls Tryd.prog 71 #[.int .i64 n] w fun e w' => e = .returned (.int .i32 (fadeF n)) ∧ Below w.heap.size w w' := by
  by_cases h0 : n < 0
  · have E := Lib.hid (show fadeF n = 0 from by unfold fadeF; omega)
    clear hT
    go_enter Tryd.func71, Tryd.ntmps71
    go_wp2
    go_ret
    exact ⟨by rw [E.out]; rfl, by (repeat' (first | (with_reducible exact Below.refl _ _) | (with_reducible assumption) | (with_reducible refine Below.alloc ?_ ?_ _) | (with_reducible refine below_grew ?_ ?_ _) | (with_reducible refine Below.setCell ?_ ?_ _) | (with_reducible refine Below.drew ?_) | (with_reducible refine below_drewN ?_ _) | omega | (simp; done) | (simp; omega)))⟩
  · by_cases h5 : 5 ≤ n
    · have E := Lib.hid (show fadeF n = 0 from by unfold fadeF; omega)
      clear hT
      go_enter Tryd.func71, Tryd.ntmps71
      go_wp2
      go_ret
      exact ⟨by rw [E.out]; rfl, by (repeat' (first | (with_reducible exact Below.refl _ _) | (with_reducible assumption) | (with_reducible refine Below.alloc ?_ ?_ _) | (with_reducible refine below_grew ?_ ?_ _) | (with_reducible refine Below.setCell ?_ ?_ _) | (with_reducible refine Below.drew ?_) | (with_reducible refine below_drewN ?_ _) | omega | (simp; done) | (simp; omega)))⟩
    · have E := Lib.hid (fadL_eq n (by omega) (by omega))
      have hc := hT.at n (by omega) (by omega)
      have hg := hT.1
      generalize fadL.getD n.toNat 0 = x at *
      have h0' : 0 ≤ n := by omega
      have h5' : n < 5 := by omega
      clear hT h0 h5
      go_enter Tryd.func71, Tryd.ntmps71
      go_wp2
      go_ret
      exact ⟨by rw [E.out]; rfl, by (repeat' (first | (with_reducible exact Below.refl _ _) | (with_reducible assumption) | (with_reducible refine Below.alloc ?_ ?_ _) | (with_reducible refine below_grew ?_ ?_ _) | (with_reducible refine Below.setCell ?_ ?_ _) | (with_reducible refine Below.drew ?_) | (with_reducible refine below_drewN ?_ _) | omega | (simp; done) | (simp; omega)))⟩
theorem wr_small {x : Int} (h1 : -4611686018427387904 ≤ x) (h2 : x ≤ 4611686018427387904) : IntKind.i64.wrap x = x := (i64_w x).trans (w64_id h1 h2)
set_option maxHeartbeats 4000000 in
set_option maxRecDepth 100000 in
theorem plain_any (l : List Int) (A : Option Addr) (c : Nat) (loss : Int) (w : World) (hC : Kd.C (Kd.int .i32) w A l.length l) (hc : l.length ≤ c) (hn : Len l.length) (hT : FadeW w) :
    Calls Tryd.prog 42 #[.slice A l.length c, .int .i64 loss] w fun e w' => ∃ v, e = .returned v ∧ Kd.R (Kd.int .i32) 21 w' w.heap.size (fun _ => True) v (madeF l loss) ∧ Below w.heap.size w w' := by
  have HC := Lib.hid hC
  have HT := Lib.hid hT
  have HL := Lib.hid (fun w h => conceal_Lag.calls 60 A c l _ w h hc (lag_f l hn 60 (by decide)))
  obtain ⟨p, hp⟩ : ∃ p : Nat, p = lagF l := ⟨_, rfl⟩
  obtain ⟨g1, g2⟩ := lag_bd l hn
  rw [← hp] at g1 g2 HL
  have HP := Lib.hid hp
  have hlen : 8 ≤ l.length ∧ l.length ≤ 32 := by unfold Len at hn; omega
  have pz : ((p : Int) == 0) = false := beq_eq_false_iff_ne.mpr (by omega)
  clear hC hT hn hp
  go_enter Tryd.func42, Tryd.ntmps42
  go_wp2_with fail
  refine (HL.out _ (Kd.C_below HC.out (by (repeat' (first | (with_reducible exact Below.refl _ _) | (with_reducible assumption) | (with_reducible refine Below.alloc ?_ ?_ _) | (with_reducible refine below_grew ?_ ?_ _) | (with_reducible refine Below.setCell ?_ ?_ _) | (with_reducible refine Below.drew ?_) | (with_reducible refine below_drewN ?_ _) | omega | (simp; done) | (simp; omega)))))).mono ?_
  rintro e w1 ⟨rfl, hb1⟩
  have hw1 := Lib.hid (show Below w.heap.size w w1 from by have := hb1; exact Below.trans (by (repeat' (first | (with_reducible exact Below.refl _ _) | (with_reducible assumption) | (with_reducible refine Below.alloc ?_ ?_ _) | (with_reducible refine below_grew ?_ ?_ _) | (with_reducible refine Below.setCell ?_ ?_ _) | (with_reducible refine Below.drew ?_) | (with_reducible refine below_drewN ?_ _) | omega | (simp; done) | (simp; omega)))) (this.mono (by simp)))
  clear hb1
  go_wp2_with fail
  go_loopw [6, 14] (fun vo cnt wr => ∃ i : Nat, i ≤ l.length ∧ cnt = .int .i64 i ∧ wr.ownsRow w.heap.size 21 1 vo i (((List.range i).map (madeAt l loss)).map (Value.int .i32)) ∧ Below w.heap.size w wr) (fun _ cnt _ => l.length - (intOf cnt).toNat)
  case atStart => exact ⟨0, by omega, rfl, World.ownsRow_nil _ _ _ _, by have := hw1.out; (repeat' (first | (with_reducible exact Below.refl _ _) | (with_reducible assumption) | (with_reducible refine Below.alloc ?_ ?_ _) | (with_reducible refine below_grew ?_ ?_ _) | (with_reducible refine Below.setCell ?_ ?_ _) | (with_reducible refine Below.drew ?_) | (with_reducible refine below_drewN ?_ _) | omega | (simp; done) | (simp; omega)))⟩
  case round =>
    obtain ⟨i, hi, rfl, hR, hB⟩ := hrel
    have HR := Lib.hid hR
    have HB := Lib.hid hB
    clear hR hB
    by_cases hlt : i < l.length
    · have hlt' : (i : Int) < l.length := by omega
      have hm := Nat.mod_lt i (show p > 0 by omega)
      obtain ⟨j, hj⟩ : ∃ j : Int, j = ((l.length - p + i % p : Nat) : Int) := ⟨_, rfl⟩
      obtain ⟨a1, f1⟩ : ∃ a1 : Int, IntKind.i64.wrap ((l.length : Int) - (p : Int)) = a1 := ⟨_, rfl⟩
      obtain ⟨a2, f2⟩ : ∃ a2 : Int, Int.tmod (i : Int) (p : Int) = a2 := ⟨_, rfl⟩
      have f3 : IntKind.i64.wrap (a1 + a2) = j := by
        have e1 : a1 = ((l.length - p : Nat) : Int) := by rw [← f1, wr_small (by omega) (by omega)]; omega
        have e2 : a2 = ((i % p : Nat) : Int) := by rw [← f2, Int.tmod_eq_emod_of_nonneg (by omega)]; rfl
        rw [e1, e2, wr_small (by omega) (by omega), hj]; rfl
      have j0 : (0 : Int) ≤ j := by omega
      have j1 : j < (l.length : Int) := by omega
      obtain ⟨ad, rfl, hcell⟩ := Kd.at_int HC.out j j0 j1
      have hcell := (HB.out.cell (World.block_lt_of_cell? w _ hcell)).trans hcell
      have HBL := Lib.hid (World.block_lt_of_cell? wr _ hcell)
      have HJ := Lib.hid hj
      have HCL := Lib.hid hcell
      have hTV : FadeW wr := HT.out.below HB.out
      have HTV := Lib.hid hTV
      have hpart := Lib.hid (part_eq (rd l j) loss)
      have hx : (hd (rd l j) * fadeF loss).tdiv 32768 = madeAt l loss i := by
        rw [hj, rd_nat, HP.out]; rfl
      rw [hx] at hpart
      generalize rd l j = x at *
      clear hj hcell hTV hx
      go_wp2_with fail
      refine wp_region_inv [] (fun W => Below wr.heap.size wr W) (fun W W' => Below W.heap.size W W') 16 (by kernel_rfl) (by kernel_rfl) (by kernel_rfl) ((Below.refl _ _).drew) (fun W W' h h' => h.trans (h'.mono h.size)) (fun _ _ h => h.size) ?_
      simp only [List.take_succ_cons, List.take_zero, List.drop_succ_cons, List.drop_zero]
      refine wpInv_det (by kernel_rfl) (by kernel_rfl) ?_
      apply Exists.intro
      refine ⟨?_, ?_, ?_⟩
      · intro U W hC hH
        obtain ⟨hc1, hf1⟩ := bcell hC
        simp only [HypsU, predsOf, Region.binds, List.filterMap_cons, List.filterMap_nil, if_true, List.nil_append, List.cons_append, List.getD_cons_zero, List.getD_cons_succ] at hH
        simp only [fillPuts, Act.put, List.setIfInBounds_toArray, List.set_cons_zero, List.set_cons_succ, Nat.reduceAdd]
        go_wp2_with fail
        refine ⟨rfl, rfl, by (repeat' (first | (with_reducible exact Below.refl _ _) | (with_reducible assumption) | (with_reducible refine Below.alloc ?_ ?_ _) | (with_reducible refine below_grew ?_ ?_ _) | (with_reducible refine Below.setCell ?_ ?_ _) | (with_reducible refine Below.drew ?_) | (with_reducible refine below_drewN ?_ _) | omega | (simp; done) | (simp; omega))), ?_⟩
        conv => lhs; whnf
        try rfl
      · exact fun _ => rfl
      simp only [List.nil_append, List.cons_append, Nat.reduceAdd]
      refine wpInv_det (by kernel_rfl) (by kernel_rfl) ?_
      apply Exists.intro
      refine ⟨?_, ?_, ?_⟩
      · intro U W hC hH
        obtain ⟨hc1, hf1⟩ := bcell hC
        simp only [HypsU, predsOf, Region.binds, List.filterMap_cons, List.filterMap_nil, if_true, List.nil_append, List.cons_append, List.getD_cons_zero, List.getD_cons_succ] at hH
        simp only [fillPuts, Act.put, List.setIfInBounds_toArray, List.set_cons_zero, List.set_cons_succ, Nat.reduceAdd]
        go_wp2_with fail
        refine ⟨rfl, rfl, by (repeat' (first | (with_reducible exact Below.refl _ _) | (with_reducible assumption) | (with_reducible refine Below.alloc ?_ ?_ _) | (with_reducible refine below_grew ?_ ?_ _) | (with_reducible refine Below.setCell ?_ ?_ _) | (with_reducible refine Below.drew ?_) | (with_reducible refine below_drewN ?_ _) | omega | (simp; done) | (simp; omega))), ?_⟩
        conv => lhs; whnf
        try rfl
      · exact fun _ => rfl
      simp only [List.nil_append, List.cons_append, Nat.reduceAdd]
      refine wpInv_det (by kernel_rfl) (by kernel_rfl) ?_
      apply Exists.intro
      refine ⟨?_, ?_, ?_⟩
      · intro U W hC hH
        obtain ⟨hc1, hf1⟩ := bcell hC
        simp only [HypsU, predsOf, Region.binds, List.filterMap_cons, List.filterMap_nil, if_true, List.nil_append, List.cons_append, List.getD_cons_zero, List.getD_cons_succ] at hH
        simp only [fillPuts, Act.put, List.setIfInBounds_toArray, List.set_cons_zero, List.set_cons_succ, Nat.reduceAdd]
        go_wp2_with fail
        refine ⟨rfl, rfl, by (repeat' (first | (with_reducible exact Below.refl _ _) | (with_reducible assumption) | (with_reducible refine Below.alloc ?_ ?_ _) | (with_reducible refine below_grew ?_ ?_ _) | (with_reducible refine Below.setCell ?_ ?_ _) | (with_reducible refine Below.drew ?_) | (with_reducible refine below_drewN ?_ _) | omega | (simp; done) | (simp; omega))), ?_⟩
        conv => lhs; whnf
        try rfl
      · exact fun _ => rfl
      simp only [List.nil_append, List.cons_append, Nat.reduceAdd]
      refine wpInv_det (by kernel_rfl) (by kernel_rfl) ?_
      apply Exists.intro
      refine ⟨?_, ?_, ?_⟩
      · intro U W hC hH
        obtain ⟨hc1, hf1⟩ := bcell hC
        simp only [HypsU, predsOf, Region.binds, List.filterMap_cons, List.filterMap_nil, if_true, List.nil_append, List.cons_append, List.getD_cons_zero, List.getD_cons_succ] at hH
        simp only [fillPuts, Act.put, List.setIfInBounds_toArray, List.set_cons_zero, List.set_cons_succ, Nat.reduceAdd]
        go_wp2_with fail
        refine ⟨rfl, rfl, by (repeat' (first | (with_reducible exact Below.refl _ _) | (with_reducible assumption) | (with_reducible refine Below.alloc ?_ ?_ _) | (with_reducible refine below_grew ?_ ?_ _) | (with_reducible refine Below.setCell ?_ ?_ _) | (with_reducible refine Below.drew ?_) | (with_reducible refine below_drewN ?_ _) | omega | (simp; done) | (simp; omega))), ?_⟩
        conv => lhs; whnf
        try rfl
      · exact fun _ => rfl
      simp only [List.nil_append, List.cons_append, Nat.reduceAdd]
      refine wpInv_det (by kernel_rfl) (by kernel_rfl) ?_
      apply Exists.intro
      refine ⟨?_, ?_, ?_⟩
      · intro U W hC hH
        obtain ⟨hc1, hf1⟩ := bcell hC
        simp only [HypsU, predsOf, Region.binds, List.filterMap_cons, List.filterMap_nil, if_true, List.nil_append, List.cons_append, List.getD_cons_zero, List.getD_cons_succ] at hH
        simp only [fillPuts, Act.put, List.setIfInBounds_toArray, List.set_cons_zero, List.set_cons_succ, Nat.reduceAdd]
        go_wp2_with fail
        refine ⟨rfl, rfl, by (repeat' (first | (with_reducible exact Below.refl _ _) | (with_reducible assumption) | (with_reducible refine Below.alloc ?_ ?_ _) | (with_reducible refine below_grew ?_ ?_ _) | (with_reducible refine Below.setCell ?_ ?_ _) | (with_reducible refine Below.drew ?_) | (with_reducible refine below_drewN ?_ _) | omega | (simp; done) | (simp; omega))), ?_⟩
        conv => lhs; whnf
        try rfl
      · exact fun _ => rfl
      simp only [List.nil_append, List.cons_append, Nat.reduceAdd]
      refine wpInv_det (by kernel_rfl) (by kernel_rfl) ?_
      apply Exists.intro
      refine ⟨?_, ?_, ?_⟩
      · intro U W hC hH
        obtain ⟨hc1, hf1⟩ := bcell hC
        simp only [HypsU, predsOf, Region.binds, List.filterMap_cons, List.filterMap_nil, if_true, List.nil_append, List.cons_append, List.getD_cons_zero, List.getD_cons_succ] at hH
        simp only [fillPuts, Act.put, List.setIfInBounds_toArray, List.set_cons_zero, List.set_cons_succ, Nat.reduceAdd]
        go_wp2_with fail
        refine ⟨rfl, rfl, by (repeat' (first | (with_reducible exact Below.refl _ _) | (with_reducible assumption) | (with_reducible refine Below.alloc ?_ ?_ _) | (with_reducible refine below_grew ?_ ?_ _) | (with_reducible refine Below.setCell ?_ ?_ _) | (with_reducible refine Below.drew ?_) | (with_reducible refine below_drewN ?_ _) | omega | (simp; done) | (simp; omega))), ?_⟩
        conv => lhs; whnf
        try rfl
      · exact fun _ => rfl
      simp only [List.nil_append, List.cons_append, Nat.reduceAdd]
      refine wpInv_det (by kernel_rfl) (by kernel_rfl) ?_
      apply Exists.intro
      refine ⟨?_, ?_, ?_⟩
      · intro U W hC hH
        obtain ⟨hc1, hf1⟩ := bcell hC
        simp only [HypsU, predsOf, Region.binds, List.filterMap_cons, List.filterMap_nil, if_true, List.nil_append, List.cons_append, List.getD_cons_zero, List.getD_cons_succ] at hH
        simp only [fillPuts, Act.put, List.setIfInBounds_toArray, List.set_cons_zero, List.set_cons_succ, Nat.reduceAdd]
        go_wp2_with fail
        refine ⟨rfl, rfl, by (repeat' (first | (with_reducible exact Below.refl _ _) | (with_reducible assumption) | (with_reducible refine Below.alloc ?_ ?_ _) | (with_reducible refine below_grew ?_ ?_ _) | (with_reducible refine Below.setCell ?_ ?_ _) | (with_reducible refine Below.drew ?_) | (with_reducible refine below_drewN ?_ _) | omega | (simp; done) | (simp; omega))), ?_⟩
        conv => lhs; whnf
        try rfl
      · exact fun _ => rfl
      simp only [List.nil_append, List.cons_append, Nat.reduceAdd]
      refine wpInv_det (by kernel_rfl) (by kernel_rfl) ?_
      apply Exists.intro
      refine ⟨?_, ?_, ?_⟩
      · intro U W hC hH
        obtain ⟨hc1, hf1⟩ := bcell hC
        simp only [HypsU, predsOf, Region.binds, List.filterMap_cons, List.filterMap_nil, if_true, List.nil_append, List.cons_append, List.getD_cons_zero, List.getD_cons_succ] at hH
        simp only [fillPuts, Act.put, List.setIfInBounds_toArray, List.set_cons_zero, List.set_cons_succ, Nat.reduceAdd]
        go_wp2_with fail
        refine ⟨rfl, rfl, by (repeat' (first | (with_reducible exact Below.refl _ _) | (with_reducible assumption) | (with_reducible refine Below.alloc ?_ ?_ _) | (with_reducible refine below_grew ?_ ?_ _) | (with_reducible refine Below.setCell ?_ ?_ _) | (with_reducible refine Below.drew ?_) | (with_reducible refine below_drewN ?_ _) | omega | (simp; done) | (simp; omega))), ?_⟩
        conv => lhs; whnf
        try rfl
      · exact fun _ => rfl
      simp only [List.nil_append, List.cons_append, Nat.reduceAdd]
      refine wpInv_det (by kernel_rfl) (by kernel_rfl) ?_
      apply Exists.intro
      refine ⟨?_, ?_, ?_⟩
      · intro U W hC hH
        obtain ⟨hc1, hf1⟩ := bcell hC
        simp only [HypsU, predsOf, Region.binds, List.filterMap_cons, List.filterMap_nil, if_true, List.nil_append, List.cons_append, List.getD_cons_zero, List.getD_cons_succ] at hH
        simp only [fillPuts, Act.put, List.setIfInBounds_toArray, List.set_cons_zero, List.set_cons_succ, Nat.reduceAdd]
        go_wp2_with fail
        refine ⟨rfl, rfl, by (repeat' (first | (with_reducible exact Below.refl _ _) | (with_reducible assumption) | (with_reducible refine Below.alloc ?_ ?_ _) | (with_reducible refine below_grew ?_ ?_ _) | (with_reducible refine Below.setCell ?_ ?_ _) | (with_reducible refine Below.drew ?_) | (with_reducible refine below_drewN ?_ _) | omega | (simp; done) | (simp; omega))), ?_⟩
        conv => lhs; whnf
        try rfl
      · exact fun _ => rfl
      simp only [List.nil_append, List.cons_append, Nat.reduceAdd]
      refine wpInv_det (by kernel_rfl) (by kernel_rfl) ?_
      apply Exists.intro
      refine ⟨?_, ?_, ?_⟩
      · intro U W hC hH
        obtain ⟨hc1, hf1⟩ := bcell hC
        simp only [HypsU, predsOf, Region.binds, List.filterMap_cons, List.filterMap_nil, if_true, List.nil_append, List.cons_append, List.getD_cons_zero, List.getD_cons_succ] at hH
        simp only [fillPuts, Act.put, List.setIfInBounds_toArray, List.set_cons_zero, List.set_cons_succ, Nat.reduceAdd]
        go_wp2_with fail
        refine ⟨rfl, rfl, by (repeat' (first | (with_reducible exact Below.refl _ _) | (with_reducible assumption) | (with_reducible refine Below.alloc ?_ ?_ _) | (with_reducible refine below_grew ?_ ?_ _) | (with_reducible refine Below.setCell ?_ ?_ _) | (with_reducible refine Below.drew ?_) | (with_reducible refine below_drewN ?_ _) | omega | (simp; done) | (simp; omega))), ?_⟩
        conv => lhs; whnf
        try rfl
      · exact fun _ => rfl
      simp only [List.nil_append, List.cons_append, Nat.reduceAdd]
      refine wpInv_det (by kernel_rfl) (by kernel_rfl) ?_
      apply Exists.intro
      refine ⟨?_, ?_, ?_⟩
      · intro U W hC hH
        obtain ⟨hc1, hf1⟩ := bcell hC
        simp only [HypsU, predsOf, Region.binds, List.filterMap_cons, List.filterMap_nil, if_true, List.nil_append, List.cons_append, List.getD_cons_zero, List.getD_cons_succ] at hH
        simp only [fillPuts, Act.put, List.setIfInBounds_toArray, List.set_cons_zero, List.set_cons_succ, Nat.reduceAdd]
        go_wp2_with fail
        refine ⟨rfl, rfl, by (repeat' (first | (with_reducible exact Below.refl _ _) | (with_reducible assumption) | (with_reducible refine Below.alloc ?_ ?_ _) | (with_reducible refine below_grew ?_ ?_ _) | (with_reducible refine Below.setCell ?_ ?_ _) | (with_reducible refine Below.drew ?_) | (with_reducible refine below_drewN ?_ _) | omega | (simp; done) | (simp; omega))), ?_⟩
        conv => lhs; whnf
        try rfl
      · exact fun _ => rfl
      simp only [List.nil_append, List.cons_append, Nat.reduceAdd]
      refine wpInv_det (by kernel_rfl) (by kernel_rfl) ?_
      apply Exists.intro
      refine ⟨?_, ?_, ?_⟩
      · intro U W hC hH
        obtain ⟨hc1, hf1⟩ := bcell hC
        simp only [HypsU, predsOf, Region.binds, List.filterMap_cons, List.filterMap_nil, if_true, List.nil_append, List.cons_append, List.getD_cons_zero, List.getD_cons_succ] at hH
        simp only [fillPuts, Act.put, List.setIfInBounds_toArray, List.set_cons_zero, List.set_cons_succ, Nat.reduceAdd]
        have hcl := (hC.cell HBL.out).trans HCL.out; go_wp2_with fail
        refine ⟨rfl, rfl, by (repeat' (first | (with_reducible exact Below.refl _ _) | (with_reducible assumption) | (with_reducible refine Below.alloc ?_ ?_ _) | (with_reducible refine below_grew ?_ ?_ _) | (with_reducible refine Below.setCell ?_ ?_ _) | (with_reducible refine Below.drew ?_) | (with_reducible refine below_drewN ?_ _) | omega | (simp; done) | (simp; omega))), ?_⟩
        conv => lhs; whnf
        try rfl
      · exact fun _ => rfl
      simp only [List.nil_append, List.cons_append, Nat.reduceAdd]
      refine wpInv_det (by kernel_rfl) (by kernel_rfl) ?_
      apply Exists.intro
      refine ⟨?_, ?_, ?_⟩
      · intro U W hC hH
        obtain ⟨hc1, hf1⟩ := bcell hC
        simp only [HypsU, predsOf, Region.binds, List.filterMap_cons, List.filterMap_nil, if_true, List.nil_append, List.cons_append, List.getD_cons_zero, List.getD_cons_succ] at hH
        simp only [fillPuts, Act.put, List.setIfInBounds_toArray, List.set_cons_zero, List.set_cons_succ, Nat.reduceAdd]
        go_wp2_with fail
        refine ⟨rfl, rfl, by (repeat' (first | (with_reducible exact Below.refl _ _) | (with_reducible assumption) | (with_reducible refine Below.alloc ?_ ?_ _) | (with_reducible refine below_grew ?_ ?_ _) | (with_reducible refine Below.setCell ?_ ?_ _) | (with_reducible refine Below.drew ?_) | (with_reducible refine below_drewN ?_ _) | omega | (simp; done) | (simp; omega))), ?_⟩
        conv => lhs; whnf
        try rfl
      · exact fun _ => rfl
      simp only [List.nil_append, List.cons_append, Nat.reduceAdd]
      refine wpInv_det (by kernel_rfl) (by kernel_rfl) ?_
      apply Exists.intro
      refine ⟨?_, ?_, ?_⟩
      · intro U W hC hH
        obtain ⟨hc1, hf1⟩ := bcell hC
        simp only [HypsU, predsOf, Region.binds, List.filterMap_cons, List.filterMap_nil, if_true, List.nil_append, List.cons_append, List.getD_cons_zero, List.getD_cons_succ] at hH
        simp only [fillPuts, Act.put, List.setIfInBounds_toArray, List.set_cons_zero, List.set_cons_succ, Nat.reduceAdd]
        go_wp2_with fail; refine (fade_any _ _ (HTV.out.below hC)).mono ?_; rintro e w' ⟨rfl, hb1⟩; obtain ⟨x1, rfl⟩ := below_as_grew hb1; clear hb1; go_wp2_with fail
        refine ⟨rfl, rfl, by (repeat' (first | (with_reducible exact Below.refl _ _) | (with_reducible assumption) | (with_reducible refine Below.alloc ?_ ?_ _) | (with_reducible refine below_grew ?_ ?_ _) | (with_reducible refine Below.setCell ?_ ?_ _) | (with_reducible refine Below.drew ?_) | (with_reducible refine below_drewN ?_ _) | omega | (simp; done) | (simp; omega))), ?_⟩
        conv => lhs; whnf
        try rfl
      · exact fun _ => rfl
      simp only [List.nil_append, List.cons_append, Nat.reduceAdd]
      refine wpInv_det (by kernel_rfl) (by kernel_rfl) ?_
      apply Exists.intro
      refine ⟨?_, ?_, ?_⟩
      · intro U W hC hH
        obtain ⟨hc1, hf1⟩ := bcell hC
        simp only [HypsU, predsOf, Region.binds, List.filterMap_cons, List.filterMap_nil, if_true, List.nil_append, List.cons_append, List.getD_cons_zero, List.getD_cons_succ] at hH
        simp only [fillPuts, Act.put, List.setIfInBounds_toArray, List.set_cons_zero, List.set_cons_succ, Nat.reduceAdd]
        go_wp2_with fail; refine (conceal_part.calls _ _ _ _ hpart.out).mono ?_; rintro e w' ⟨rfl, hb1⟩; obtain ⟨x1, rfl⟩ := below_as_grew hb1; clear hb1; go_wp2_with fail
        refine ⟨rfl, rfl, by (repeat' (first | (with_reducible exact Below.refl _ _) | (with_reducible assumption) | (with_reducible refine Below.alloc ?_ ?_ _) | (with_reducible refine below_grew ?_ ?_ _) | (with_reducible refine Below.setCell ?_ ?_ _) | (with_reducible refine Below.drew ?_) | (with_reducible refine below_drewN ?_ _) | omega | (simp; done) | (simp; omega))), ?_⟩
        conv => lhs; whnf
        try rfl
      · exact fun _ => rfl
      simp only [List.nil_append, List.cons_append, Nat.reduceAdd]
      refine ⟨fun U W => ∃ q, U 15 = .slice (some ⟨q, 0, none⟩) 1 1 ∧ wr.heap.size ≤ q ∧ W.heap[q]? = some (.cells #[.int .i32 (madeAt l loss i)] 21 (0, 0)), fun _ _ => rfl, ?_, ?_, ?_⟩
      · rintro U W W' hC hT ⟨q, h0, hq, hqc⟩
        exact ⟨q, h0, hq, (hT.block q (Array.getElem?_eq_some_iff.1 hqc).1).trans hqc⟩
      · intro U W hC hH
        simp only [HypsU, predsOf, Region.binds, List.filterMap_cons, List.filterMap_nil, if_true, List.nil_append, List.cons_append, List.getD_cons_zero, List.getD_cons_succ] at hH
        simp only [fillPuts, Act.put, List.setIfInBounds_toArray, List.set_cons_zero, List.set_cons_succ, Nat.reduceAdd]
        go_wp2_with fail
        refine ⟨rfl, rfl, by (repeat' (first | (with_reducible exact Below.refl _ _) | (with_reducible assumption) | (with_reducible refine Below.alloc ?_ ?_ _) | (with_reducible refine below_grew ?_ ?_ _) | (with_reducible refine Below.setCell ?_ ?_ _) | (with_reducible refine Below.drew ?_) | (with_reducible refine below_drewN ?_ _) | omega | (simp; done) | (simp; omega))), ⟨_, updU_eq _ _ _, hC.size, alloc_at _ _⟩, fun h => by cases h⟩
      simp only [List.nil_append, List.cons_append, Nat.reduceAdd, fillPuts, Act.put, List.setIfInBounds_toArray, List.set_cons_zero, List.set_cons_succ]
      rintro U W hC ⟨h0, h1, h2, h3, h4, h5, h6, h7, h8, h9, h10, h11, h12, h13, h14, ⟨q, h15, hq, hqc⟩, -⟩ -
      simp only [h0, h1, h2, h3, h4, h5, h6, h7, h8, h9, h10, h11, h12, h13, h14, h15]
      clear h0 h1 h2 h3 h4 h5 h6 h7 h8 h9 h10 h11 h12 h13 h14 h15
      have hRW := ownsRow_below HR.out hC
      have hsz : w.heap.size ≤ W.heap.size := Nat.le_trans HB.out.size hC.size
      go_wp2_with (at_builtin; refine append_src rfl _ _ 90 rfl w.heap.size 21 21 (.int .i32 0) 1 4 Tryd.underlying90 (by kernel_rfl) (by rfl) (by decide) u6 i _ rfl hRW q [_] rfl hqc rfl ?h1 ?h63 ?hby ?hba ?_; (case h1 => simp [Value.oneCell']; done); (case h63 => exact maxLen_le (by omega)); (case hby => omega); (case hba => omega); intro v' w' hR' hgr hown)
      have hB' : Below w.heap.size w w' := (HB.out.trans (hC.mono HB.out.size)).trans ⟨hgr.os, hgr.tape, hgr.output, hgr.size, fun k hk => hgr.block k (by omega) (fun e => by have := (own_lt' hRW k e.symm).1; omega)⟩
      have HR' := Lib.hid hR'
      have HB' := Lib.hid hB'
      clear hR' hB' hgr hown hRW hqc
      go_wp2_with fail
      go_roundw
      case rel =>
        refine ⟨i + 1, by omega, rfl, ?_, HB'.out⟩
        have := HR'.out
        rw [List.range_succ, List.map_append, List.map_append]
        exact this
      case measure => simp [intOf]; omega
    · have hlt' : ¬ (i : Int) < l.length := by omega
      obtain rfl : i = l.length := by omega
      go_wp2_with fail
      go_ret
      refine ⟨u6, rfl, ?_, HB.out⟩
      refine Kd.R_of_own ?_ (fun _ _ => trivial)
      have := HR.out
      unfold madeF
      simpa only [List.length_map, List.length_range, encs] using this
end Go.Proofs.YtmcjbejccelagaaDoor
end

section
namespace Go.Vec
/-- The row behind a row: v(k) = up(k) + v(k-1) + up(k-1), from v(0) = 1 on. -/
def rowFrom : Nat → Nat → List Nat → List Nat
  | last, upLast, u :: us => (u + last + upLast) :: rowFrom (u + last + upLast) u us
  | _, _, [] => []
def nextRow : List Nat → List Nat
  | u :: us => 1 :: rowFrom 1 u us
  | [] => []
def row : Nat → List Nat
  | 0 => 1 :: List.replicate 32 0
  | n + 1 => nextRow (row n)
def all : List (List Nat) := (List.range 17).map row
/-- V(n, k), n up to 16, k up to 32. -/
def v (n k : Nat) : Nat := ((row n).getD k 0)
/-- V of any whole numbers: 0 outside. -/
def vF (n k : Int) : Int := if 0 ≤ n ∧ n ≤ 16 ∧ 0 ≤ k ∧ k ≤ 32 then (v n.toNat k.toNat : Nat) else 0
end Go.Vec
end

section
namespace Go
open Go.RowKit Go.Vec
set_option linter.unusedSimpArgs false
/-- What a book's map may hold. -/
def GoodEntries (es : List MapEntry) : Prop := ∀ e ∈ es, ∃ n k : Int, e.key = .agg #[.int .i64 n, .int .i64 k] ∧ e.val = .int .u64 (vF n k)
/-- A map's contents, and growth. -/
structure BookBy where
  es : Array MapEntry
  clock : Nat
  good : GoodEntries es.toList
  gr : Grown.By
instance : Inhabited BookBy := ⟨⟨#[], 0, fun e h => by simp at h, default⟩⟩
/-- 'w', with other contents of the map at block m, grown. -/
def World.bkd (w : World) (m : Nat) (x : BookBy) : World := { w with heap := (w.heap.setIfInBounds m (.map x.es x.clock)) ++ x.gr.objs, drawn := x.gr.drawn }
section
variable (w : World) (m : Nat) (x y : BookBy)
theorem World.bkd_block (k : Nat) (h : k < w.heap.size) (hne : m ≠ k) : (w.bkd m x).heap[k]? = w.heap[k]? := by
  show (w.heap.setIfInBounds m _ ++ x.gr.objs)[k]? = _
  rw [Array.getElem?_append_left (by simpa using h), Array.getElem?_setIfInBounds_ne hne]
theorem World.bkd_map (h : m < w.heap.size) : (w.bkd m x).heap[m]? = some (.map x.es x.clock) := by
  show (w.heap.setIfInBounds m _ ++ x.gr.objs)[m]? = _
  rw [Array.getElem?_append_left (by simpa using h), Array.getElem?_setIfInBounds_self_of_lt h]
@[simp, go_sem] theorem World.size_bkd : (w.bkd m x).heap.size = w.heap.size + x.gr.objs.size := by
  show (w.heap.setIfInBounds m _ ++ x.gr.objs).size = _
  simp
@[go_sem] theorem World.drew_bkd : (w.bkd m x).drew = w.bkd m ⟨x.es, x.clock, x.good, ⟨x.gr.objs, x.gr.drawn + 1⟩⟩ := rfl
@[go_sem] theorem World.bkd_drew : w.drew.bkd m x = w.bkd m x := rfl
@[go_sem] theorem World.grew_bkd (z : Grown.By) : (w.bkd m x).grew z = w.bkd m ⟨x.es, x.clock, x.good, ⟨x.gr.objs ++ z.objs, z.drawn⟩⟩ := by
  unfold World.bkd World.grew
  simp [Array.append_assoc]
@[go_sem] theorem World.cell?_bkd (n i : Nat) (s : Option Nat) (hn : n < w.heap.size) (hne : m ≠ n) : (w.bkd m x).cell? ⟨n, i, s⟩ = w.cell? ⟨n, i, s⟩ := by
  unfold World.cell?
  rw [World.bkd_block w m x n hn hne]
@[go_sem] theorem World.frozen?_bkd (n i : Nat) (s : Option Nat) (hn : n < w.heap.size) (hne : m ≠ n) : (w.bkd m x).frozen? ⟨n, i, s⟩ = w.frozen? ⟨n, i, s⟩ := by
  unfold World.frozen?
  rw [World.bkd_block w m x n hn hne]
@[go_sem] theorem World.shape?_bkd (n : Nat) (hn : n < w.heap.size) (hne : m ≠ n) : (w.bkd m x).shape? n = w.shape? n := by
  unfold World.shape?
  rw [World.bkd_block w m x n hn hne]
@[go_sem] theorem World.heap_bkd (n : Nat) (hn : n < w.heap.size) (hne : m ≠ n) : (w.bkd m x).heap[n]? = w.heap[n]? := World.bkd_block w m x n hn hne
@[go_sem] theorem World.setCell_bkd (n i : Nat) (s : Option Nat) (v : Value) (hn : n < w.heap.size) (hne : m ≠ n) : (w.bkd m x).setCell ⟨n, i, s⟩ v = (w.setCell ⟨n, i, s⟩ v).bkd m x := by
  unfold World.setCell World.bkd
  congr 1
  apply Array.ext_getElem?
  intro k
  simp only [Array.getElem?_modify, Array.getElem?_append, Array.size_modify, Array.size_setIfInBounds, Array.getElem?_setIfInBounds]
  by_cases hk : n = k
  · subst hk
    simp [hn, hne]
  · simp [hk]
@[go_sem] theorem World.bkd_bkd (h : m < w.heap.size) : (w.bkd m x).bkd m y = w.bkd m ⟨y.es, y.clock, y.good, ⟨x.gr.objs ++ y.gr.objs, y.gr.drawn⟩⟩ := by
  unfold World.bkd
  simp only
  congr 1
  apply Array.ext_getElem?
  intro k
  simp only [Array.getElem?_append, Array.size_append, Array.size_setIfInBounds, Array.getElem?_setIfInBounds]
  grind
end
@[go_sem] theorem World.heap_alloc_past (w : World) (o : Obj) (k : Nat) (h : k < w.heap.size) : (w.alloc o).heap[k]? = w.heap[k]? := Below.heap_alloc w o k h
/-- Of what was there nothing has turned but the map at block m, which is a good one. -/
structure BkInv (m : Nat) (w w' : World) : Prop where
  os : w'.os = w.os
  tape : w'.tape = w.tape
  output : w'.output = w.output
  size : w.heap.size ≤ w'.heap.size
  lt : m < w.heap.size
  map : ∃ es clk, w'.heap[m]? = some (.map es clk) ∧ GoodEntries es.toList
  block : ∀ k, k < w.heap.size → m ≠ k → w'.heap[k]? = w.heap[k]?
theorem BkInv.below {m : Nat} {w a b : World} (h : BkInv m w a) (hb : Below w.heap.size a b) : BkInv m w b := by
  obtain ⟨es, clk, h1, h2⟩ := h.map
  exact ⟨hb.os.trans h.os, hb.tape.trans h.tape, hb.output.trans h.output, Nat.le_trans h.size hb.size, h.lt, ⟨es, clk, (hb.block m h.lt).trans h1, h2⟩, fun k hk hne => (hb.block k hk).trans (h.block k hk hne)⟩
theorem BkInv.alloc {m : Nat} {w a : World} (h : BkInv m w a) (o : Obj) : BkInv m w (a.alloc o) := h.below ((Below.refl _ _).alloc h.size o)
theorem BkInv.grew {m : Nat} {w a : World} (h : BkInv m w a) (x : Grown.By) : BkInv m w (a.grew x) := h.below (below_grew (Below.refl _ _) h.size x)
theorem BkInv.drew {m : Nat} {w a : World} (h : BkInv m w a) : BkInv m w a.drew := ⟨h.os, h.tape, h.output, h.size, h.lt, h.map, h.block⟩
theorem BkInv.setCell {m : Nat} {w a : World} (h : BkInv m w a) {p : Addr} (hp : w.heap.size ≤ p.block) (u : Value) : BkInv m w (a.setCell p u) := h.below ((Below.refl _ _).setCell hp u)
theorem BkInv.bkd {m : Nat} {w a : World} (h : BkInv m w a) (x : BookBy) : BkInv m w (a.bkd m x) := by
  have hlt : m < a.heap.size := Nat.lt_of_lt_of_le h.lt h.size
  refine ⟨h.os, h.tape, h.output, ?_, h.lt, ⟨x.es, x.clock, World.bkd_map a m x hlt, x.good⟩, fun k hk hne => (World.bkd_block a m x k (Nat.lt_of_lt_of_le hk h.size) hne).trans (h.block k hk hne)⟩
  have := h.size
  simp; omega
theorem BkInv.refl {m : Nat} {w : World} {es : Array MapEntry} {clk : Nat} (h : w.heap[m]? = some (.map es clk)) (hg : GoodEntries es.toList) : BkInv m w w :=
  ⟨rfl, rfl, rfl, Nat.le_refl _, (Array.getElem?_eq_some_iff.1 h).1, ⟨es, clk, h, hg⟩, fun _ _ _ => rfl⟩
/-- A book lies at block b, its map at block m. -/
structure BookOK (T : TypeId) (b m : Nat) (w : World) : Prop where
  book : w.heap[b]? = some (.cells #[.map (some m)] T (0, 0))
  ne : m ≠ b
  map : ∃ es clk, w.heap[m]? = some (.map es clk) ∧ GoodEntries es.toList
theorem BookOK.lt_b {T : TypeId} {b m : Nat} {w : World} (h : BookOK T b m w) : b < w.heap.size := (Array.getElem?_eq_some_iff.1 h.book).1
theorem BookOK.refl {T : TypeId} {b m : Nat} {w : World} (h : BookOK T b m w) : BkInv m w w := by
  obtain ⟨es, clk, h1, h2⟩ := h.map
  exact BkInv.refl h1 h2
theorem BookOK.inv {T : TypeId} {b m : Nat} {w w' : World} (h : BookOK T b m w) (hi : BkInv m w w') : BookOK T b m w' :=
  ⟨(hi.block b h.lt_b h.ne).trans h.book, h.ne, hi.map⟩
theorem BookOK.cell {T : TypeId} {b m : Nat} {w : World} (h : BookOK T b m w) : w.cell? ⟨b, 0, none⟩ = some (.map (some m)) := by simp [World.cell?, h.book]
/-- What follows is shown of every world of which this is known. -/
theorem cut_world {P : Program} {c : Code} {Q : Exit → Act → World → Prop} {a : Act} {w : World} (F : World → Prop) (hF : F w) (h : ∀ W, F W → c.wp P Q a W) : c.wp P Q a w := h w hF
end Go
end

section
namespace Go.Proofs.YtmcjbejccelagaaDoor
open Go.RowKit Go.BigFrame Go.Vec
set_option linter.unusedSimpArgs false
abbrev Book (b m : Nat) (w : World) : Prop := BookOK 114 b m w
end Go.Proofs.YtmcjbejccelagaaDoor
end

section
namespace Go.Cost
open Go.Vec
def capS (n : Nat) : Nat := ((List.range 32).takeWhile fun k => decide (v n (k + 1) ≤ 1048576)).length
def cap (n : Nat) : Nat := if n ≤ 8 then capS n else min (capS (n / 2)) (capS (n - n / 2))
def bitsS (n k : Nat) : Nat := if k = 0 then 0 else Lib.bitLen (v n k - 1) + 1
def mx (n k : Nat) : Nat → Nat
  | 0 => 0
  | a + 1 => max (mx n k a) (bitsS (n / 2) a + bitsS (n - n / 2) (k - a))
def pays (n k : Nat) : Nat := if k = 0 then 0 else if n ≤ 8 then bitsS n k else Lib.bitLen k + 1 + mx n k (k + 1)
/-- The greatest number of pulses: -1 outside. -/
def capF (n : Int) : Int := if 1 ≤ n ∧ n ≤ 16 then (cap n.toNat : Nat) else -1
/-- What pulses cost: -1 outside. -/
def bitsF (n k : Int) : Int := if 0 ≤ k ∧ k ≤ capF n then (pays n.toNat k.toNat : Nat) else -1
end Go.Cost
end

section
namespace Go.Proofs.YtmcjbejccelagaaDoor
open Go.RowKit Go.BigFrame Go.Vec Go.Cost
set_option linter.unusedSimpArgs false
section
variable {b m : Nat} {w : World}
/-- What is known behind each change of the map. -/
theorem Book.any (hB : Book b m w) (x : BookBy) : Book b m (w.bkd m x) := hB.inv (hB.refl.bkd x)
end
end Go.Proofs.YtmcjbejccelagaaDoor
end

section
namespace Go.Proofs.YtmcjbejccelagaaDoor
open Go.RowKit Go.BigFrame Go.Vec Go.Cost
set_option linter.unusedSimpArgs false
theorem WidthW.ne {b m : Nat} {w : World} (h : WidthW w) (hB : Book b m w) : m ≠ 0 := by
  intro e
  obtain ⟨es, clk, h1, _⟩ := hB.map
  have h2 := h.2 0 (by omega)
  subst e
  simp [World.cell?, h1] at h2
theorem WidthW.inv {b m : Nat} {w w' : World} (h : WidthW w) (hB : Book b m w) (hi : BkInv m w w') : WidthW w' :=
  ⟨Nat.lt_of_lt_of_le h.1 hi.size, fun j hj => (World.cell?_of_block (w := w) (hi.block _ h.1 (h.ne hB))).trans (h.2 j hj)⟩
end Go.Proofs.YtmcjbejccelagaaDoor
end

section
namespace Go.Proofs.YtmcjbejccelagaaDoor
open Go.Vec Go.Cost
/-- Place by place at least. -/
def AtLeast (l r : List Int) : Prop := ∀ i, l.getD i 0 ≤ r.getD i 0
theorem AtLeast.refl (l : List Int) : AtLeast l l := fun _ => Int.le_refl _
theorem AtLeast.trans {a b c : List Int} (h : AtLeast a b) (k : AtLeast b c) : AtLeast a c := fun i => Int.le_trans (h i) (k i)
end Go.Proofs.YtmcjbejccelagaaDoor
end

section
namespace Go
open Go.RowKit
theorem BkInv.trans {m : Nat} {a b c : World} (h : BkInv m a b) (k : BkInv m b c) : BkInv m a c :=
  ⟨k.os.trans h.os, k.tape.trans h.tape, k.output.trans h.output, Nat.le_trans h.size k.size, h.lt, k.map, fun i hi hne => (k.block i (Nat.lt_of_lt_of_le hi h.size) hne).trans (h.block i hi hne)⟩
theorem setCell_block (w : World) (p : Addr) (v : Value) (k : Nat) (h : p.block ≠ k) : (w.setCell p v).heap[k]? = w.heap[k]? := by
  show (w.heap.modify p.block _)[k]? = _
  rw [Array.getElem?_modify, if_neg h]
theorem BookOK.setCell {T : TypeId} {b m : Nat} {w : World} (h : BookOK T b m w) (p : Addr) (v : Value) (h1 : p.block ≠ b) (h2 : p.block ≠ m) : BookOK T b m (w.setCell p v) := by
  obtain ⟨es, clk, h3, h4⟩ := h.map
  exact ⟨by rw [setCell_block _ _ _ _ h1]; exact h.book, h.ne, es, clk, by rw [setCell_block _ _ _ _ h2]; exact h3, h4⟩
/-- A block whose cells are all known. -/
theorem block_facts {w : World} {p : Nat} {cs : Array Value} {T : TypeId} (h : w.heap[p]? = some (.cells cs T (0, 0))) : (∀ i, w.cell? ⟨p, i, none⟩ = cs[i]?) ∧ (∀ i, w.frozen? ⟨p, i, none⟩ = false) ∧ p < w.heap.size :=
  ⟨fun i => by simp [World.cell?, h], fun i => by simp [World.frozen?, h], (Array.getElem?_eq_some_iff.1 h).1⟩
end Go
namespace Go
open Go.RowKit
/-- All that was there stays, all rows of cells stay, and books stay books. -/
structure TB (V W W' : World) : Prop where
  below : Below V.heap.size W W'
  cells : ∀ (k : Nat) (cs : Array Value) (T : TypeId) (f : Nat × Nat), W.heap[k]? = some (.cells cs T f) → W'.heap[k]? = some (.cells cs T f)
  books : ∀ T b m, BookOK T b m W → BookOK T b m W'
theorem TB.of_below {V W W' : World} (hs : V.heap.size ≤ W.heap.size) (h : Below W.heap.size W W') : TB V W W' :=
  ⟨h.mono hs, fun k _ _ _ hk => (h.block k (Array.getElem?_eq_some_iff.1 hk).1).trans hk, fun _ _ _ hB => hB.inv (hB.refl.below h)⟩
end Go
end

section
namespace Go.Proofs.YtmcjbejccelagaaDoor
open Go.RowKit Go.BigFrame Go.Proofs.YtmcjbejccelagaaDoorW.PrintWords Go.Proofs.YtmcjbejccelagaaDoorW.PrintLast Go.Proofs.YtmcjbejccelagaaDoorW.PrintMore
set_option linter.unusedSimpArgs false
set_option linter.unusedVariables false
/-- N whole numbers, each of its own kind. -/
def ag (k : Nat → IntKind) (N : Nat) (st : Nat → Int) : Array Value := ((List.range N).map fun i => Value.int (k i) (st i)).toArray
def updI (st : Nat → Int) (i : Nat) (x : Int) : Nat → Int := fun j => if j = i then x else st j
theorem ag_size (k : Nat → IntKind) (N : Nat) (st : Nat → Int) : (ag k N st).size = N := by simp [ag]
theorem ag_get (k : Nat → IntKind) (N : Nat) (st : Nat → Int) (i : Nat) (h : i < N) : (ag k N st)[i]? = some (.int (k i) (st i)) := by
  simp [ag, h]
theorem ag_set (k : Nat → IntKind) (N : Nat) (st : Nat → Int) (i : Nat) (h : i < N) (x : Int) : (ag k N st).setIfInBounds i (.int (k i) x) = ag k N (updI st i x) := by
  apply Array.ext
  · simp [ag]
  · intro j h1 h2
    have hj : j < N := by simpa [ag] using h2
    rw [Array.getElem_setIfInBounds (by simpa [ag] using hj)]
    unfold updI
    by_cases e : i = j
    · subst e; simp [ag]
    · rw [if_neg e]; simp [ag, Ne.symm e]
theorem ag_ext (k : Nat → IntKind) (N : Nat) (s t : Nat → Int) (h : ∀ i, i < N → s i = t i) : ag k N s = ag k N t := by
  unfold ag
  congr 1
  apply List.map_congr_left
  intro i hi
  rw [h i (by simpa using hi)]
theorem grown_below {base e sz n : Nat} {V wr G w' : World} {v : Value} {xs : List Value} (hB : Below base V wr) (hb : base ≤ V.heap.size) (hG : Below wr.heap.size wr G) (hR : G.ownsRow base e sz v n xs) (h : G.grownBy w' v.ownBlock) : Below base V w' := by
  have h1 := hB.size
  have h2 := hG.size
  exact (hB.trans (hG.mono (by omega))).trans ⟨h.os, h.tape, h.output, h.size, fun k hk => h.block k (by omega) (fun e => by have := (own_lt' hR k e.symm).1; omega)⟩
set_option maxHeartbeats 4000000 in
set_option maxRecDepth 100000 in
theorem first_any (x : Nat → Int) (n : Nat) (hn : n ≤ 32) (w : World) :
    Calls Tryd.prog 49 #[.agg (ag (fun _ => .i64) 32 x), .int .i64 n] w fun e w' => ∃ v, e = .returned v ∧ Kd.R (Kd.int .i64) 2 w' w.heap.size (fun _ => True) v ((List.range n).map x) ∧ Below w.heap.size w w' := by
  go_enter Tryd.func49, Tryd.ntmps49
  go_wp2_with fail
  refine cut_world (fun V => Below w.heap.size w V ∧ w.heap.size < V.heap.size ∧ V.heap[w.heap.size]? = some (.cells (ag (fun _ => .i64) 32 x) 38 (0, 0))) ⟨by (repeat' (first | (with_reducible exact Below.refl _ _) | (with_reducible assumption) | (with_reducible refine Below.alloc ?_ ?_ _) | (with_reducible refine below_grew ?_ ?_ _) | (with_reducible refine Below.setCell ?_ ?_ _) | (with_reducible refine Below.drew ?_) | (with_reducible refine below_drewN ?_ _) | omega | (simp; done) | (simp; omega))), by simp, alloc_at _ _⟩ ?_
  rintro V ⟨hV, hVs, hVb⟩
  have HV := Lib.hid hV
  have HVB := Lib.hid hVb
  clear hV hVb
  generalize hBd : w.heap.size = B at *
  have HBd := Lib.hid hBd
  clear hBd
  go_loopw [5, 6] (fun vo cnt wr => ∃ i : Nat, i ≤ n ∧ cnt = .int .i64 i ∧ wr.ownsRow V.heap.size 2 1 vo i (((List.range i).map x).map (Value.int .i64)) ∧ Below V.heap.size V wr) (fun _ cnt _ => n - (intOf cnt).toNat)
  case atStart => exact ⟨0, by omega, rfl, World.ownsRow_nil _ _ _ _, by (repeat' (first | (with_reducible exact Below.refl _ _) | (with_reducible assumption) | (with_reducible refine Below.alloc ?_ ?_ _) | (with_reducible refine below_grew ?_ ?_ _) | (with_reducible refine Below.setCell ?_ ?_ _) | (with_reducible refine Below.drew ?_) | (with_reducible refine below_drewN ?_ _) | omega | (simp; done) | (simp; omega)))⟩
  case round =>
    obtain ⟨i, hi, rfl, hR, hB⟩ := hrel
    have HR := Lib.hid hR
    have HB := Lib.hid hB
    have hws := hB.size
    have hcell : wr.cell? ⟨B, i, none⟩ = (ag (fun _ => .i64) 32 x)[i]? := (block_facts ((hB.block B hVs).trans HVB.out)).1 i
    clear hR hB
    have hBs : B < wr.heap.size := by omega
    by_cases hlt : i < n
    · have hlt' : (i : Int) < n := by omega
      rw [ag_get _ _ _ _ (by omega)] at hcell
      have hi0 : (0 : Int) ≤ i := by omega
      have hi32 : (i : Int) < 32 := by omega
      go_wp2_with (at_builtin; refine append_src rfl _ _ 43 rfl V.heap.size 2 2 (.int .i64 0) 1 8 Tryd.underlying43 (by kernel_rfl) (by rfl) (by decide) u5 i _ rfl (ownsRow_below HR.out (by (repeat' (first | (with_reducible exact Below.refl _ _) | (with_reducible assumption) | (with_reducible refine Below.alloc ?_ ?_ _) | (with_reducible refine below_grew ?_ ?_ _) | (with_reducible refine Below.setCell ?_ ?_ _) | (with_reducible refine Below.drew ?_) | (with_reducible refine below_drewN ?_ _) | omega | (simp; done) | (simp; omega))))) _ [_] rfl (alloc_at _ _) rfl ?h1 ?h63 ?hby ?hba ?_; (case h1 => simp [Value.oneCell']; done); (case h63 => exact maxLen_le (by omega)); (case hby => omega); (case hba => simp; omega); intro v' w' hR' hgr hown)
      have hRW : (wr.alloc (.cells #[.int .i64 (x i)] 2 (0, 0))).ownsRow V.heap.size 2 1 u5 i _ := ownsRow_below HR.out (by (repeat' (first | (with_reducible exact Below.refl _ _) | (with_reducible assumption) | (with_reducible refine Below.alloc ?_ ?_ _) | (with_reducible refine below_grew ?_ ?_ _) | (with_reducible refine Below.setCell ?_ ?_ _) | (with_reducible refine Below.drew ?_) | (with_reducible refine below_drewN ?_ _) | omega | (simp; done) | (simp; omega))))
      have hB' := grown_below HB.out (Nat.le_refl _) (by (repeat' (first | (with_reducible exact Below.refl _ _) | (with_reducible assumption) | (with_reducible refine Below.alloc ?_ ?_ _) | (with_reducible refine below_grew ?_ ?_ _) | (with_reducible refine Below.setCell ?_ ?_ _) | (with_reducible refine Below.drew ?_) | (with_reducible refine below_drewN ?_ _) | omega | (simp; done) | (simp; omega)))) hRW hgr
      clear hRW hgr hown hcell
      refine ⟨⟨i + 1, by omega, rfl, ?_, hB'⟩, by simp [intOf]; omega⟩
      rw [List.range_succ, List.map_append, List.map_append]
      exact hR'
    · have hlt' : ¬ (i : Int) < n := by omega
      obtain rfl : i = n := by omega
      go_wp2_with fail
      go_ret
      have hfin := HV.out.trans (HB.out.mono (by omega))
      rw [HBd.out]
      refine ⟨u5, rfl, ?_, hfin⟩
      refine Kd.R_lower (Kd.R_of_own (base := V.heap.size) ?_ (fun _ _ => trivial)) (by omega)
      have := HR.out
      simpa only [List.length_map, List.length_range, encs] using this
end Go.Proofs.YtmcjbejccelagaaDoor
end

section
namespace Go.Proofs.YtmcjbejccelagaaDoor.RAllocTells
open Go.RowKit Go.Proofs.YtmcjbejccelagaaDoorW.PrintWords Go.Proofs.YtmcjbejccelagaaDoorW.PrintLast Go.Proofs.YtmcjbejccelagaaDoorW.PrintMore
set_option linter.unusedVariables false
set_option linter.unusedSimpArgs false
open Go.Proofs.YtmcjbejccelagaaDoor.PAllocTells
def spinetref05_Bands.f (a0 : Int) : Option (Int) := some (wrap64 (a0 + 3))
set_option maxHeartbeats 8000000 in
set_option maxRecDepth 100000 in
theorem spinetref05_Bands.calls (a0 : Int) (r : Int) (w : World) (h : spinetref05_Bands.f a0 = some r) :
    Calls Tryd.prog 33 #[.int .i64 a0] w fun e w' => e = .returned (.int .i64 r) ∧ Drawn0 w w' := by
  have H : (some (wrap64 (a0 + 3))) = some r := h
  clear h
  obtain rfl := Option.some.inj H
  go_enter Tryd.func33, Tryd.ntmps33
  go_wp2
  go_ret
  exact ⟨by first | rfl | (simp; done) | (simp [*]; done), by repeat (first | exact Drawn0.refl _ | apply Drawn0.step)⟩
end Go.Proofs.YtmcjbejccelagaaDoor.RAllocTells
end

section
namespace Go.Proofs.YtmcjbejccelagaaDoor
open Go.Vec Go.Cost
def more (c : Int) (b : Nat) (l : List Int) : Int := c * (bitsF (widL.getD b 0) (l.getD b 0 + 1) - bitsF (widL.getD b 0) (l.getD b 0))
end Go.Proofs.YtmcjbejccelagaaDoor
end

section
namespace Go
open Go.RowKit
theorem setCell_own (w : World) (K i : Nat) (cs : Array Value) (T : TypeId) (f : Nat × Nat) (v : Value) (h : w.heap[K]? = some (.cells cs T f)) : (w.setCell ⟨K, i, none⟩ v).heap[K]? = some (.cells (cs.setIfInBounds i v) T f) := by
  show (w.heap.modify K _)[K]? = _
  rw [Array.getElem?_modify, if_pos rfl, h]
  rfl
/-- All that was there stays, but one block. -/
structure But (K : Nat) (w w' : World) : Prop where
  os : w'.os = w.os
  tape : w'.tape = w.tape
  output : w'.output = w.output
  size : w.heap.size ≤ w'.heap.size
  block : ∀ k, k < w.heap.size → K ≠ k → w'.heap[k]? = w.heap[k]?
theorem But.refl (K : Nat) (w : World) : But K w w := ⟨rfl, rfl, rfl, Nat.le_refl _, fun _ _ _ => rfl⟩
theorem But.below {K : Nat} {w a b : World} (h : But K w a) (hb : Below w.heap.size a b) : But K w b :=
  ⟨hb.os.trans h.os, hb.tape.trans h.tape, hb.output.trans h.output, Nat.le_trans h.size hb.size, fun k hk hne => (hb.block k hk).trans (h.block k hk hne)⟩
theorem But.grew {K : Nat} {w a : World} (h : But K w a) (x : Grown.By) : But K w (a.grew x) := h.below (below_grew (Below.refl _ _) h.size x)
theorem But.setCell {K : Nat} {w a : World} (h : But K w a) (i : Nat) (s : Option Nat) (v : Value) : But K w (a.setCell ⟨K, i, s⟩ v) :=
  ⟨h.os, h.tape, h.output, by simpa using h.size, fun k hk hne => (setCell_block _ _ _ _ hne).trans (h.block k hk hne)⟩
theorem But.frozen {K : Nat} {w a : World} (h : But K w a) (b o : Nat) (hb : b < w.heap.size) (hne : K ≠ b) : a.frozen? ⟨b, o, none⟩ = w.frozen? ⟨b, o, none⟩ := by
  unfold World.frozen?; rw [h.block b hb hne]
theorem But.cell {K : Nat} {w a : World} (h : But K w a) (b o : Nat) (hb : b < w.heap.size) (hne : K ≠ b) : a.cell? ⟨b, o, none⟩ = w.cell? ⟨b, o, none⟩ := by
  unfold World.cell?; rw [h.block b hb hne]
end Go
namespace Go.Proofs.YtmcjbejccelagaaDoor
open Go.RowKit Go.BigFrame Go.Vec Go.Cost Go.Proofs.YtmcjbejccelagaaDoorW.PrintWords
open RAllocTells
set_option linter.unusedSimpArgs false
/-- A slice of whole numbers in a block of its own. -/
def RowAt (w : World) (v : Value) (r : List Int) : Prop := ∃ g c cs, v = .slice (some ⟨g, 0, none⟩) r.length c ∧ w.heap[g]? = some (.cells cs 3 (0, 0)) ∧ ∀ j, j < r.length → cs[j]? = some (.int .i64 (r.getD j 0))
theorem RowAt.below {w w' : World} {v : Value} {r : List Int} (h : RowAt w v r) (hb : Below w.heap.size w w') : RowAt w' v r := by
  obtain ⟨g, c, cs, hv, hg, hc⟩ := h
  exact ⟨g, c, cs, hv, (hb.block g (Array.getElem?_eq_some_iff.1 hg).1).trans hg, hc⟩
/-- An append to a row of another type leaves it. -/
theorem RowAt.grown {w w' : World} {v u : Value} {r : List Int} {base n size : Nat} {e : TypeId} {xs : List Value} (h : RowAt w v r) (ho : w.ownsRow base e size u n xs) (he : e ≠ 3) (hg : w.grownBy w' u.ownBlock) : RowAt w' v r := by
  obtain ⟨g, c, cs, hv, hb, hc⟩ := h
  refine ⟨g, c, cs, hv, (hg.block g (Array.getElem?_eq_some_iff.1 hb).1 (fun hh => ?_)).trans hb, hc⟩
  rcases ho.2 with ⟨rfl, _⟩ | ⟨g', cap, cur, rfl, _, hh', _⟩
  · exact absurd hh (by simp [Value.ownBlock])
  · have : g = g' := by
      have := hh
      simp [Value.ownBlock] at this
      omega
    subst this
    rw [hb] at hh'
    cases hh'
    exact he rfl
def cellsOf (l : List Int) : Array Value := (l.map (Value.int .i64)).toArray
end Go.Proofs.YtmcjbejccelagaaDoor
end

section
namespace Go.Proofs.YtmcjbejccelagaaDoor
open Go.RowKit Go.BigFrame Go.Proofs.YtmcjbejccelagaaDoorW.PrintWords Go.Proofs.YtmcjbejccelagaaDoorW.PrintLast Go.Proofs.YtmcjbejccelagaaDoorW.PrintMore
set_option linter.unusedSimpArgs false
set_option linter.unusedVariables false
/-- A row with other numbers ahead. -/
def putTo (x : Nat → Int) (l : List Int) (i : Nat) : Nat → Int := fun j => if j < i then l.getD j 0 else x j
theorem putTo_zero (x : Nat → Int) (l : List Int) : putTo x l 0 = x := by funext j; simp [putTo]
theorem putTo_succ (x : Nat → Int) (l : List Int) (i : Nat) : updI (putTo x l i) i (l.getD i 0) = putTo x l (i + 1) := by
  funext j
  unfold updI putTo
  by_cases h : j = i
  · subst h; rw [if_pos rfl, if_pos (by omega)]
  · rw [if_neg h]
    by_cases h2 : j < i
    · rw [if_pos h2, if_pos (by omega)]
    · rw [if_neg h2, if_neg (by omega)]
theorem there_of {w : World} {b n : Nat} {e : TypeId} {k : Nat → IntKind} {st : Nat → Int} {cs : Array Value} (h : w.heap[b]? = some (.cells (ag k n st) e (0, 0))) (hn : cs.size = n) : w.there b 0 cs.size := by
  intro j hj
  rw [Nat.zero_add]
  refine ⟨?_, (block_facts h).2.1 j⟩
  rw [(block_facts h).1 j, ag_get _ _ _ _ (by omega)]
  rfl
theorem below_cells {B g : Nat} {w wr : World} (h : Below B w wr) (hg : B ≤ g) (vs : List Value) : Below B w (wr.setCells g 0 vs) := by
  obtain ⟨h1, h2, h3, h4⟩ := setCells_same g vs 0 wr
  exact ⟨h1.trans h.os, h2.trans h.tape, h3.trans h.output, by rw [h4]; exact h.size, fun k hk => (setCells_far vs 0 k (by omega)).trans (h.block k hk)⟩
theorem cells_all {w : World} {g N : Nat} {e : TypeId} {old cs : Array Value} (h : w.heap[g]? = some (.cells old e (0, 0))) (h1 : old.size = N) (h2 : cs.size = N) : (w.setCells g 0 cs.toList).heap[g]? = some (.cells cs e (0, 0)) := by
  obtain ⟨cur, q1, q2, q3⟩ := setCells_row cs.toList 0 w old h (by rw [Array.length_toList]; omega)
  have : cur = cs := by
    apply Array.ext'
    rw [q3, List.take_zero, List.nil_append, List.drop_of_length_le (by rw [Array.length_toList, Array.length_toList]; omega), List.append_nil]
  rw [q1, this]
theorem ag_one (k : Nat → IntKind) (N : Nat) (st : Nat → Int) : (ag k N st).all (·.oneCell') = true := by
  rw [Array.all_eq_true]
  intro i hi
  simp [ag, Value.oneCell']
set_option maxHeartbeats 4000000 in
set_option maxRecDepth 100000 in
theorem put_any (x : Nat → Int) (l : List Int) (A : Option Addr) (c : Nat) (hn : l.length ≤ 32) (w : World) (hC : Kd.C (Kd.int .i64) w A l.length l) :
    Calls Tryd.prog 51 #[.agg (ag (fun _ => .i64) 32 x), .slice A l.length c] w fun e w' => e = .returned (.agg (ag (fun _ => .i64) 32 (putTo x l l.length))) ∧ Below w.heap.size w w' := by
  have HC := Lib.hid hC
  clear hC
  go_enter Tryd.func51, Tryd.ntmps51
  go_wp2_with fail
  refine cut_world (fun V => Below w.heap.size w V ∧ w.heap.size + 1 < V.heap.size ∧ V.heap[w.heap.size]? = some (.cells (ag (fun _ => .i64) 32 x) 38 (0, 0)) ∧ V.heap[w.heap.size + 1]? = some (.cells (ag (fun _ => .i64) 32 (fun _ => 0)) 38 (0, 0))) ⟨by (repeat' (first | (with_reducible exact Below.refl _ _) | (with_reducible assumption) | (with_reducible refine Below.alloc ?_ ?_ _) | (with_reducible refine below_grew ?_ ?_ _) | (with_reducible refine Below.setCell ?_ ?_ _) | (with_reducible refine Below.drew ?_) | (with_reducible refine below_drewN ?_ _) | omega | (simp; done) | (simp; omega))), by simp, ?_, ?_⟩ ?_
  · exact (below_alloc (Below.refl _ _) _ : Below (w.alloc (.cells (ag (fun _ => .i64) 32 x) 38 (0, 0))).heap.size _ _).block _ (by simp) |>.trans (alloc_at _ _)
  · refine (show _ = _ from ?_).trans (congrArg some (congrArg (fun z => Obj.cells z 38 (0, 0)) (show #[.int .i64 0, .int .i64 0, .int .i64 0, .int .i64 0, .int .i64 0, .int .i64 0, .int .i64 0, .int .i64 0, .int .i64 0, .int .i64 0, .int .i64 0, .int .i64 0, .int .i64 0, .int .i64 0, .int .i64 0, .int .i64 0, .int .i64 0, .int .i64 0, .int .i64 0, .int .i64 0, .int .i64 0, .int .i64 0, .int .i64 0, .int .i64 0, .int .i64 0, .int .i64 0, .int .i64 0, .int .i64 0, .int .i64 0, .int .i64 0, .int .i64 0, .int .i64 0] = ag (fun _ => .i64) 32 (fun _ => 0) from by kernel_rfl)))
    have := alloc_at (w.alloc (.cells (ag (fun _ => .i64) 32 x) 38 (0, 0)))
    rw [show (w.alloc (.cells (ag (fun _ => .i64) 32 x) 38 (0, 0))).heap.size = w.heap.size + 1 from by simp] at this
    exact this _
  rintro V ⟨hV, hVs, hVb, hVc⟩
  have HV := Lib.hid hV
  have HVB := Lib.hid hVb
  have HVC := Lib.hid hVc
  clear hV hVb hVc
  generalize hBd : w.heap.size = B at *
  have HBd := Lib.hid hBd
  clear hBd
  go_loopw [5] (fun cnt wr => ∃ i : Nat, i ≤ l.length ∧ cnt = .int .i64 i ∧ Below B w wr ∧ B + 1 < wr.heap.size ∧ wr.heap[B]? = some (.cells (ag (fun _ => .i64) 32 (putTo x l i)) 38 (0, 0)) ∧ wr.heap[B + 1]? = some (.cells (ag (fun _ => .i64) 32 (fun _ => 0)) 38 (0, 0))) (fun cnt _ => l.length - (intOf cnt).toNat)
  case atStart => exact ⟨0, by omega, rfl, HV.out, hVs, by rw [putTo_zero]; exact HVB.out, HVC.out⟩
  case round =>
    obtain ⟨i, hi, rfl, hB, hs, hb, hc⟩ := hrel
    have HB := Lib.hid hB
    have HCB := Lib.hid hb
    have HCC := Lib.hid hc
    have hws := hB.size
    obtain ⟨k1, k2, k3⟩ := block_facts hb
    have hcell := k1 i
    have hfr := k2 i
    clear hB hb hc k1 k2
    by_cases hlt : i < l.length
    · have hlt' : (i : Int) < l.length := by omega
      rw [ag_get _ _ _ _ (by omega)] at hcell
      have hi0 : (0 : Int) ≤ i := by omega
      have hi32 : (i : Int) < 32 := by omega
      obtain ⟨ad, rfl, hcl⟩ := Kd.at_int HC.out i hi0 hlt'
      rw [rd_nat, Int.toNat_natCast] at hcl
      have hcl := ((show Below w.heap.size w wr by rw [HBd.out]; exact HB.out).cell (World.block_lt_of_cell? w _ hcl)).trans hcl
      generalize hz : l.getD i 0 = z at hcl
      have HZ := Lib.hid hz
      clear hz
      go_wp2_with fail
      refine ⟨⟨i + 1, by omega, rfl, by have := HB.out; (repeat' (first | (with_reducible exact Below.refl _ _) | (with_reducible assumption) | (with_reducible refine Below.alloc ?_ ?_ _) | (with_reducible refine below_grew ?_ ?_ _) | (with_reducible refine Below.setCell ?_ ?_ _) | (with_reducible refine Below.drew ?_) | (with_reducible refine below_drewN ?_ _) | omega | (simp; done) | (simp; omega))), by simpa using hs, ?_, ?_⟩, by simp [intOf]; omega⟩
      · rw [setCell_own _ _ _ _ _ _ _ HCB.out, ag_set (fun _ => .i64) 32 _ i (by omega) z, ← HZ.out, putTo_succ]
      · exact (Below.heap_setCell wr ⟨B, i, none⟩ _ (B + 1) (by simp)).trans HCC.out
    · have hlt' : ¬ (i : Int) < l.length := by omega
      obtain rfl : i = l.length := by omega
      go_wp2_with (first | (refine wpList_load_row rfl 38 _ rfl B rfl _ _ _ _ HCB.out Tryd.underlying38 rfl (by rw [ag_size]; kernel_rfl) ?_) | (refine wpList_store_mid rfl 38 _ _ rfl (B + 1) 0 _ rfl rfl (there_of HCC.out (ag_size _ _ _)) (by rw [ag_size]; kernel_rfl) (ag_one _ _ _) ?_))
      have hfin : Below B w (wr.setCells (B + 1) 0 (ag (fun _ => .i64) 32 (putTo x l l.length)).toList) := below_cells HB.out (by omega) _
      have q1 := cells_all HCC.out (ag_size _ _ _) (cs := ag (fun _ => .i64) 32 (putTo x l l.length)) (ag_size _ _ _)
      refine bodyPost_ret (v := .agg (ag (fun _ => .i64) 32 (putTo x l l.length))) ?_ rfl ⟨by rfl, ?_⟩
      · exact results_cell_row rfl _ _ (B + 1) _ _ _ _ rfl q1 Tryd.underlying38 rfl (by rw [ag_size]; kernel_rfl)
      · rw [HBd.out]; exact hfin
end Go.Proofs.YtmcjbejccelagaaDoor
end

section
namespace Go.Proofs.YtmcjbejccelagaaDoor
open Go.RowKit Go.BigFrame Go.Proofs.YtmcjbejccelagaaDoorW.PrintWords Go.Proofs.YtmcjbejccelagaaDoorW.PrintLast Go.Proofs.YtmcjbejccelagaaDoorW.PrintMore
set_option linter.unusedSimpArgs false
set_option linter.unusedVariables false
/-- The kinds of a state's numbers, and of the document's. -/
def kS (i : Nat) : IntKind := if i < 10 then .i64 else if i < 140 then .i32 else if i = 140 then .u32 else .i64
def kP (i : Nat) : IntKind := if i = 140 then .u32 else .i64
abbrev St := 29
abbrev Rt := 42
/-- A store into a great value. -/
theorem ag_store {w : World} {b N : Nat} {e : TypeId} {k : Nat → IntKind} {f : Nat → Int} (h : w.heap[b]? = some (.cells (ag k N f) e (0, 0))) (i : Nat) (hi : i < N) (x : Int) :
    (w.setCell ⟨b, i, none⟩ (.int (k i) x)).heap[b]? = some (.cells (ag k N (updI f i x)) e (0, 0)) := by
  rw [setCell_own _ _ _ _ _ _ _ h, ag_set k N f i hi x]
theorem ag_cell {w : World} {b N : Nat} {e : TypeId} {k : Nat → IntKind} {f : Nat → Int} (h : w.heap[b]? = some (.cells (ag k N f) e (0, 0))) (i : Nat) (hi : i < N) :
    w.cell? ⟨b, i, none⟩ = some (.int (k i) (f i)) := by rw [(block_facts h).1 i, ag_get _ _ _ _ hi]
theorem build_to {P : Program} {ops : Array Oper} {rest : List Oper} {o : Oper} {a : Act} {w : World} {Q : Exit → Act → World → Prop} (hg : o.guard = none) (t : TypeId) (parts : Array (Nat × Operand)) (ho : o.op = .build t parts) (cells : Array Value)
    (hb : P.built t (parts.map fun (i, x) => (i, a.eval x)).toList = some cells)
    (h : wpList P ops Q rest (a.put o.dst (.agg cells)) w) : wpList P ops Q (o :: rest) a w :=
  wpList_build hg t parts ho (by rw [hb]; rfl) (by rw [hb]; exact h)
theorem there_row {w : World} {b : Nat} {e : TypeId} {old : Array Value} (h : w.heap[b]? = some (.cells old e (0, 0))) (n : Nat) (hn : n ≤ old.size) : w.there b 0 n := by
  intro j hj
  rw [Nat.zero_add]
  refine ⟨?_, (block_facts h).2.1 j⟩
  rw [(block_facts h).1 j, Array.getElem?_eq_getElem (by omega)]
  rfl
theorem alloc_two (w : World) (o p : Obj) : ((w.alloc o).alloc p).heap[w.heap.size]? = some o :=
  ((below_alloc (Below.refl _ _) _ : Below (w.alloc o).heap.size _ ((w.alloc o).alloc p)).block _ (by simp)).trans (alloc_at _ _)
theorem alloc_three (w : World) (o p q : Obj) : (((w.alloc o).alloc p).alloc q).heap[w.heap.size]? = some o :=
  ((below_alloc (Below.refl _ _) _ : Below ((w.alloc o).alloc p).heap.size _ (((w.alloc o).alloc p).alloc q)).block _ (by simp; omega)).trans (alloc_two _ _ _)
theorem alloc_third (w : World) (o p q : Obj) : (((w.alloc o).alloc p).alloc q).heap[w.heap.size + 1 + 1]? = some q := by
  have := alloc_at ((w.alloc o).alloc p) q
  rw [show ((w.alloc o).alloc p).heap.size = w.heap.size + 1 + 1 from by simp] at this
  exact this
theorem alloc_second (w : World) (o p q : Obj) : (((w.alloc o).alloc p).alloc q).heap[w.heap.size + 1]? = some p := by
  have := alloc_two (w.alloc o) p q
  rw [show (w.alloc o).heap.size = w.heap.size + 1 from by simp] at this
  exact this
def fiveL (st : Nat → Int) : List Value := [.int .i64 (st 0), .int .i64 (st 1), .int .i64 (st 2), .int .i64 (st 3), .int .i64 (st 4), .int .i64 (st 5), .int .i64 (st 6), .int .i64 (st 7), .int .i64 (st 8), .int .i64 (st 9)]
theorem rangeE {w : World} {b : Nat} {e : TypeId} {st : Nat → Int} (h : w.heap[b]? = some (.cells (ag kS 142 st) e (0, 0))) : w.rangeAt b 0 (fiveL st) := by
  intro j v hv
  have hj : j < 10 := (List.getElem?_eq_some_iff.1 hv).1
  rw [Nat.zero_add, ag_cell h j (by omega), ← hv]
  have h10 : ∀ i : Fin 10, some (Value.int (kS i.val) (st i.val)) = (fiveL st)[i.val]? := by
    intro i
    rcases i with ⟨i, hi⟩
    rcases (show i = 0 ∨ i = 1 ∨ i = 2 ∨ i = 3 ∨ i = 4 ∨ i = 5 ∨ i = 6 ∨ i = 7 ∨ i = 8 ∨ i = 9 by omega) with h | h | h | h | h | h | h | h | h | h <;> subst h <;> rfl
  exact h10 ⟨j, hj⟩
theorem zero42_size : Tryd.zeroCells42.size = 142 := by kernel_rfl
theorem zero42_le (f : Nat → Int) : (ag kP 142 f).size ≤ Tryd.zeroCells42.size := by rw [ag_size, zero42_size]; exact Nat.le_refl _
theorem infoR : (Tryd.prog.info? 42).map (·.size) = some 142 := by kernel_rfl
theorem infoR_ag (f : Nat → Int) : (Tryd.prog.info? 42).map (·.size) = some (ag kP 142 f).size := by rw [ag_size]; exact infoR
theorem there42 {w : World} {b : Nat} (h : w.heap[b]? = some (.cells Tryd.zeroCells42 42 (0, 0))) (f : Nat → Int) : w.there b 0 (ag kP 142 f).size := there_row h _ (zero42_le f)
/-- What is laid down before the loops. -/
def plain0 (st : Nat → Int) : Nat → Int := fun i => if i < 10 then st i else if i < 140 then 0 else st i
set_option maxHeartbeats 4000000 in
set_option maxRecDepth 100000 in
theorem plainS_any (st : Nat → Int) (hst : ∀ j, 10 ≤ j → j < 140 → -2147483648 ≤ st j ∧ st j ≤ 2147483647) (w : World) :
    Calls Tryd.prog 16 #[.agg (ag kS 142 st)] w fun e w' => e = .returned (.agg (ag kP 142 st)) ∧ Below w.heap.size w w' := by
  have e140 : (ag kS 142 st)[140]? = some (.int .u32 (st 140)) := ag_get _ _ _ _ (by decide)
  have e141 : (ag kS 142 st)[141]? = some (.int .i64 (st 141)) := ag_get _ _ _ _ (by decide)
  go_enter Tryd.func16, Tryd.ntmps16
  go_wp2_with (first | (refine wpList_load_mid rfl 23 _ rfl w.heap.size 0 rfl (fiveL st) _ (rangeE (alloc_two _ _ _)) Tryd.underlying23 rfl (by kernel_rfl) ?_) | (refine build_to rfl Rt _ rfl (ag kP 142 (plain0 st)) (by kernel_rfl) ?_) | (refine wpList_store_mid rfl Rt _ _ rfl (w.heap.size + 1 + 1) 0 (ag kP 142 (plain0 st)) rfl rfl ?hth ?hin ?hon ?_; (case hth => exact there42 (alloc_third _ _ _ _) _); (case hin => exact infoR_ag (plain0 st)); (case hon => exact ag_one kP 142 (plain0 st))))
  refine cut_world (fun V => Below w.heap.size w V ∧ w.heap.size + 2 < V.heap.size ∧ V.heap[w.heap.size]? = some (.cells (ag kS 142 st) St (0, 0)) ∧ V.heap[w.heap.size + 1]? = some (.cells Tryd.zeroCells42 Rt (0, 0)) ∧ V.heap[w.heap.size + 2]? = some (.cells (ag kP 142 (plain0 st)) Rt (0, 0))) ⟨?_, ?_, ?_, ?_, ?_⟩ ?_
  · exact below_cells (by (repeat' (first | (with_reducible exact Below.refl _ _) | (with_reducible assumption) | (with_reducible refine Below.alloc ?_ ?_ _) | (with_reducible refine below_grew ?_ ?_ _) | (with_reducible refine Below.setCell ?_ ?_ _) | (with_reducible refine Below.drew ?_) | (with_reducible refine below_drewN ?_ _) | omega | (simp; done) | (simp; omega)))) (by omega) _
  · rw [(setCells_same _ _ _ _).2.2.2]; simp
  · exact (setCells_far _ _ _ (by omega)).trans (alloc_three _ _ _ _)
  · exact (setCells_far _ _ _ (by omega)).trans (alloc_second _ _ _ _)
  · exact cells_all (N := 142) (alloc_third _ _ _ _) zero42_size (ag_size _ _ _)
  rintro V ⟨hV, hVs, hVb, hVc, hVd⟩
  have HV := Lib.hid hV
  have HVB := Lib.hid hVb
  have HVC := Lib.hid hVc
  have HVD := Lib.hid hVd
  clear hV hVb hVc hVd e140 e141
  generalize hBd : w.heap.size = B at *
  have HBd := Lib.hid hBd
  clear hBd
  go_loopw [13] (fun cnt wr => ∃ (c : Nat) (f : Nat → Int), c ≤ 2 ∧ cnt = .int .i64 c ∧ Below B w wr ∧ B + 2 < wr.heap.size ∧ wr.heap[B]? = some (.cells (ag kS 142 st) St (0, 0)) ∧ wr.heap[B + 1]? = some (.cells Tryd.zeroCells42 Rt (0, 0)) ∧ wr.heap[B + 2]? = some (.cells (ag kP 142 f) Rt (0, 0)) ∧ (∀ j, j < 142 → (j < 10 + 32 * c ∨ (74 ≤ j ∧ j < 74 + 32 * c) ∨ (138 ≤ j ∧ j < 138 + c) ∨ 140 ≤ j) → f j = st j)) (fun cnt _ => 2 - (intOf cnt).toNat)
  case atStart => exact ⟨0, plain0 st, by omega, rfl, HV.out, hVs, HVB.out, HVC.out, HVD.out, fun j hj h => by unfold plain0; split <;> (try split) <;> first | rfl | omega⟩
  case round =>
    obtain ⟨c, f, hc, rfl, hB, hs, hb, hz, hr, hf⟩ := hrel
    have HB := Lib.hid hB
    have HCB := Lib.hid hb
    have HCZ := Lib.hid hz
    have HCR := Lib.hid hr
    have HF := Lib.hid hf
    clear hB hb hz hr hf
    by_cases hlt : c < 2
    · have hlt' : (c : Int) < 2 := by omega
      have hc0 : (0 : Int) ≤ c := by omega
      have m0 : wr.cell? ⟨B, 138 + c, none⟩ = some (.int .i32 (st (138 + c))) := by
        rw [ag_cell HCB.out (138 + c) (by omega), show kS (138 + c) = .i32 from by unfold kS; rw [if_neg (by omega), if_pos (by omega)]]
      have m1 := (block_facts HCR.out).1 (138 + c)
      rw [ag_get _ _ _ _ (by omega)] at m1
      have m2 := (block_facts HCR.out).2.1 (138 + c)
      have hwB : B < wr.heap.size := by omega
      generalize hmm : st (138 + c) = mm at m0
      go_wp2_with fail
      rw [show wrap64 mm = mm from by have := hst (138 + c) (by omega) (by omega); rw [hmm] at this; exact w64_id (by omega) (by omega)]
      refine cut_world (fun W => Below B w W ∧ B + 2 < W.heap.size ∧ W.heap[B]? = some (.cells (ag kS 142 st) St (0, 0)) ∧ W.heap[B + 1]? = some (.cells Tryd.zeroCells42 Rt (0, 0)) ∧ W.heap[B + 2]? = some (.cells (ag kP 142 (updI f (138 + c) mm)) Rt (0, 0))) ⟨?_, ?_, ?_, ?_, ?_⟩ ?_
      · have := HB.out
        (repeat' (first | (with_reducible exact Below.refl _ _) | (with_reducible assumption) | (with_reducible refine Below.alloc ?_ ?_ _) | (with_reducible refine below_grew ?_ ?_ _) | (with_reducible refine Below.setCell ?_ ?_ _) | (with_reducible refine Below.drew ?_) | (with_reducible refine below_drewN ?_ _) | omega | (simp; done) | (simp; omega)))
      · simpa using hs
      · exact (Below.heap_setCell wr ⟨B + 1 + 1, 138 + c, none⟩ _ B (by simp; omega)).trans HCB.out
      · exact (Below.heap_setCell wr ⟨B + 1 + 1, 138 + c, none⟩ _ (B + 1) (by simp)).trans HCZ.out
      · have := ag_store HCR.out (138 + c) (by omega) mm
        rw [show kP (138 + c) = .i64 from by unfold kP; rw [if_neg (by omega)]] at this
        exact this
      rintro W ⟨hB, hs', hb, hz, hr⟩
      have HB2 := Lib.hid hB
      have HCB2 := Lib.hid hb
      have HCZ2 := Lib.hid hz
      have HCR2 := Lib.hid hr
      have HM := Lib.hid hmm
      clear hB hb hz hr m0 m1 m2 hmm hwB
      go_loopw [24] (fun cnt wi => ∃ (i : Nat) (g : Nat → Int), i ≤ 32 ∧ cnt = .int .i64 i ∧ Below B w wi ∧ B + 2 < wi.heap.size ∧ wi.heap[B]? = some (.cells (ag kS 142 st) St (0, 0)) ∧ wi.heap[B + 1]? = some (.cells Tryd.zeroCells42 Rt (0, 0)) ∧ wi.heap[B + 2]? = some (.cells (ag kP 142 g) Rt (0, 0)) ∧ (∀ j, j < 142 → (j < 10 + 32 * c + i ∨ (74 ≤ j ∧ j < 74 + 32 * c + i) ∨ (138 ≤ j ∧ j < 138 + c + 1) ∨ 140 ≤ j) → g j = st j)) (fun cnt _ => 32 - (intOf cnt).toNat)
      case atStart => exact ⟨0, _, by omega, rfl, HB2.out, hs', HCB2.out, HCZ2.out, HCR2.out, fun j hj h => by
        unfold updI
        by_cases e : j = 138 + c
        · rw [if_pos e, e, HM.out]
        · rw [if_neg e]; exact HF.out j hj (by omega)⟩
      case round =>
        obtain ⟨i, g, hi, rfl, hB, hs2, hb, hz, hr, hg⟩ := hrel
        have HB3 := Lib.hid hB
        have HCB3 := Lib.hid hb
        have HCZ3 := Lib.hid hz
        have HCR3 := Lib.hid hr
        have HG := Lib.hid hg
        clear hB hb hz hr hg
        by_cases hlt2 : i < 32
        · have hlt2' : (i : Int) < 32 := by omega
          have hi0 : (0 : Int) ≤ i := by omega
          have r0 : wr.cell? ⟨B, 10 + c * 32 + i, none⟩ = some (.int .i32 (st (10 + c * 32 + i))) := by
            rw [ag_cell HCB3.out (10 + c * 32 + i) (by omega), show kS (10 + c * 32 + i) = .i32 from by unfold kS; rw [if_neg (by omega), if_pos (by omega)]]
          have hwB : B < wr.heap.size := by omega
          have hwB2 : B + 2 < wr.heap.size := hs2
          generalize hx : st (10 + c * 32 + i) = x at r0
          go_wp2_with fail
          refine wp_region_inv [] (fun W => Below wr.heap.size wr W) (fun W W' => Below W.heap.size W W') 12 (by kernel_rfl) (by kernel_rfl) (by kernel_rfl) ((Below.refl _ _).drew) (fun W W' h h' => h.trans (h'.mono h.size)) (fun _ _ h => h.size) ?_
          simp only [List.take_succ_cons, List.take_zero, List.drop_succ_cons, List.drop_zero]
          refine wpInv_det (by kernel_rfl) (by kernel_rfl) ?_
          apply Exists.intro
          refine ⟨?_, ?_, ?_⟩
          · intro U W hC hH
            obtain ⟨hc1, hf1⟩ := bcell hC
            simp only [HypsU, predsOf, Region.binds, List.filterMap_cons, List.filterMap_nil, if_true, List.nil_append, List.cons_append, List.getD_cons_zero, List.getD_cons_succ] at hH
            simp only [fillPuts, Act.put, List.setIfInBounds_toArray, List.set_cons_zero, List.set_cons_succ, Nat.reduceAdd]
            go_wp2_with fail
            refine ⟨rfl, rfl, by (repeat' (first | (with_reducible exact Below.refl _ _) | (with_reducible assumption) | (with_reducible refine Below.alloc ?_ ?_ _) | (with_reducible refine below_grew ?_ ?_ _) | (with_reducible refine Below.setCell ?_ ?_ _) | (with_reducible refine Below.drew ?_) | (with_reducible refine below_drewN ?_ _) | omega | (simp; done) | (simp; omega))), ?_⟩
            conv => lhs; whnf
            try rfl
          · exact fun _ => rfl
          simp only [List.nil_append, List.cons_append, Nat.reduceAdd]
          refine wpInv_det (by kernel_rfl) (by kernel_rfl) ?_
          apply Exists.intro
          refine ⟨?_, ?_, ?_⟩
          · intro U W hC hH
            obtain ⟨hc1, hf1⟩ := bcell hC
            simp only [HypsU, predsOf, Region.binds, List.filterMap_cons, List.filterMap_nil, if_true, List.nil_append, List.cons_append, List.getD_cons_zero, List.getD_cons_succ] at hH
            simp only [fillPuts, Act.put, List.setIfInBounds_toArray, List.set_cons_zero, List.set_cons_succ, Nat.reduceAdd]
            go_wp2_with fail
            refine ⟨rfl, rfl, by (repeat' (first | (with_reducible exact Below.refl _ _) | (with_reducible assumption) | (with_reducible refine Below.alloc ?_ ?_ _) | (with_reducible refine below_grew ?_ ?_ _) | (with_reducible refine Below.setCell ?_ ?_ _) | (with_reducible refine Below.drew ?_) | (with_reducible refine below_drewN ?_ _) | omega | (simp; done) | (simp; omega))), ?_⟩
            conv => lhs; whnf
            try rfl
          · exact fun _ => rfl
          simp only [List.nil_append, List.cons_append, Nat.reduceAdd]
          refine wpInv_det (by kernel_rfl) (by kernel_rfl) ?_
          apply Exists.intro
          refine ⟨?_, ?_, ?_⟩
          · intro U W hC hH
            obtain ⟨hc1, hf1⟩ := bcell hC
            simp only [HypsU, predsOf, Region.binds, List.filterMap_cons, List.filterMap_nil, if_true, List.nil_append, List.cons_append, List.getD_cons_zero, List.getD_cons_succ] at hH
            simp only [fillPuts, Act.put, List.setIfInBounds_toArray, List.set_cons_zero, List.set_cons_succ, Nat.reduceAdd]
            go_wp2_with fail
            refine ⟨rfl, rfl, by (repeat' (first | (with_reducible exact Below.refl _ _) | (with_reducible assumption) | (with_reducible refine Below.alloc ?_ ?_ _) | (with_reducible refine below_grew ?_ ?_ _) | (with_reducible refine Below.setCell ?_ ?_ _) | (with_reducible refine Below.drew ?_) | (with_reducible refine below_drewN ?_ _) | omega | (simp; done) | (simp; omega))), ?_⟩
            conv => lhs; whnf
            try rfl
          · exact fun _ => rfl
          simp only [List.nil_append, List.cons_append, Nat.reduceAdd]
          refine wpInv_det (by kernel_rfl) (by kernel_rfl) ?_
          apply Exists.intro
          refine ⟨?_, ?_, ?_⟩
          · intro U W hC hH
            obtain ⟨hc1, hf1⟩ := bcell hC
            simp only [HypsU, predsOf, Region.binds, List.filterMap_cons, List.filterMap_nil, if_true, List.nil_append, List.cons_append, List.getD_cons_zero, List.getD_cons_succ] at hH
            simp only [fillPuts, Act.put, List.setIfInBounds_toArray, List.set_cons_zero, List.set_cons_succ, Nat.reduceAdd]
            go_wp2_with fail
            refine ⟨rfl, rfl, by (repeat' (first | (with_reducible exact Below.refl _ _) | (with_reducible assumption) | (with_reducible refine Below.alloc ?_ ?_ _) | (with_reducible refine below_grew ?_ ?_ _) | (with_reducible refine Below.setCell ?_ ?_ _) | (with_reducible refine Below.drew ?_) | (with_reducible refine below_drewN ?_ _) | omega | (simp; done) | (simp; omega))), ?_⟩
            conv => lhs; whnf
            try rfl
          · exact fun _ => rfl
          simp only [List.nil_append, List.cons_append, Nat.reduceAdd]
          refine wpInv_det (by kernel_rfl) (by kernel_rfl) ?_
          apply Exists.intro
          refine ⟨?_, ?_, ?_⟩
          · intro U W hC hH
            obtain ⟨hc1, hf1⟩ := bcell hC
            simp only [HypsU, predsOf, Region.binds, List.filterMap_cons, List.filterMap_nil, if_true, List.nil_append, List.cons_append, List.getD_cons_zero, List.getD_cons_succ] at hH
            simp only [fillPuts, Act.put, List.setIfInBounds_toArray, List.set_cons_zero, List.set_cons_succ, Nat.reduceAdd]
            go_wp2_with fail
            refine ⟨rfl, rfl, by (repeat' (first | (with_reducible exact Below.refl _ _) | (with_reducible assumption) | (with_reducible refine Below.alloc ?_ ?_ _) | (with_reducible refine below_grew ?_ ?_ _) | (with_reducible refine Below.setCell ?_ ?_ _) | (with_reducible refine Below.drew ?_) | (with_reducible refine below_drewN ?_ _) | omega | (simp; done) | (simp; omega))), ?_⟩
            conv => lhs; whnf
            try rfl
          · exact fun _ => rfl
          simp only [List.nil_append, List.cons_append, Nat.reduceAdd]
          refine wpInv_det (by kernel_rfl) (by kernel_rfl) ?_
          apply Exists.intro
          refine ⟨?_, ?_, ?_⟩
          · intro U W hC hH
            obtain ⟨hc1, hf1⟩ := bcell hC
            simp only [HypsU, predsOf, Region.binds, List.filterMap_cons, List.filterMap_nil, if_true, List.nil_append, List.cons_append, List.getD_cons_zero, List.getD_cons_succ] at hH
            simp only [fillPuts, Act.put, List.setIfInBounds_toArray, List.set_cons_zero, List.set_cons_succ, Nat.reduceAdd]
            go_wp2_with fail
            refine ⟨rfl, rfl, by (repeat' (first | (with_reducible exact Below.refl _ _) | (with_reducible assumption) | (with_reducible refine Below.alloc ?_ ?_ _) | (with_reducible refine below_grew ?_ ?_ _) | (with_reducible refine Below.setCell ?_ ?_ _) | (with_reducible refine Below.drew ?_) | (with_reducible refine below_drewN ?_ _) | omega | (simp; done) | (simp; omega))), ?_⟩
            conv => lhs; whnf
            try rfl
          · exact fun _ => rfl
          simp only [List.nil_append, List.cons_append, Nat.reduceAdd]
          refine wpInv_det (by kernel_rfl) (by kernel_rfl) ?_
          apply Exists.intro
          refine ⟨?_, ?_, ?_⟩
          · intro U W hC hH
            obtain ⟨hc1, hf1⟩ := bcell hC
            simp only [HypsU, predsOf, Region.binds, List.filterMap_cons, List.filterMap_nil, if_true, List.nil_append, List.cons_append, List.getD_cons_zero, List.getD_cons_succ] at hH
            simp only [fillPuts, Act.put, List.setIfInBounds_toArray, List.set_cons_zero, List.set_cons_succ, Nat.reduceAdd]
            go_wp2_with fail
            refine ⟨rfl, rfl, by (repeat' (first | (with_reducible exact Below.refl _ _) | (with_reducible assumption) | (with_reducible refine Below.alloc ?_ ?_ _) | (with_reducible refine below_grew ?_ ?_ _) | (with_reducible refine Below.setCell ?_ ?_ _) | (with_reducible refine Below.drew ?_) | (with_reducible refine below_drewN ?_ _) | omega | (simp; done) | (simp; omega))), ?_⟩
            conv => lhs; whnf
            try rfl
          · exact fun _ => rfl
          simp only [List.nil_append, List.cons_append, Nat.reduceAdd]
          refine wpInv_det (by kernel_rfl) (by kernel_rfl) ?_
          apply Exists.intro
          refine ⟨?_, ?_, ?_⟩
          · intro U W hC hH
            obtain ⟨hc1, hf1⟩ := bcell hC
            simp only [HypsU, predsOf, Region.binds, List.filterMap_cons, List.filterMap_nil, if_true, List.nil_append, List.cons_append, List.getD_cons_zero, List.getD_cons_succ] at hH
            simp only [fillPuts, Act.put, List.setIfInBounds_toArray, List.set_cons_zero, List.set_cons_succ, Nat.reduceAdd]
            go_wp2_with fail
            refine ⟨rfl, rfl, by (repeat' (first | (with_reducible exact Below.refl _ _) | (with_reducible assumption) | (with_reducible refine Below.alloc ?_ ?_ _) | (with_reducible refine below_grew ?_ ?_ _) | (with_reducible refine Below.setCell ?_ ?_ _) | (with_reducible refine Below.drew ?_) | (with_reducible refine below_drewN ?_ _) | omega | (simp; done) | (simp; omega))), ?_⟩
            conv => lhs; whnf
            try rfl
          · exact fun _ => rfl
          simp only [List.nil_append, List.cons_append, Nat.reduceAdd]
          refine wpInv_det (by kernel_rfl) (by kernel_rfl) ?_
          apply Exists.intro
          refine ⟨?_, ?_, ?_⟩
          · intro U W hC hH
            obtain ⟨hc1, hf1⟩ := bcell hC
            simp only [HypsU, predsOf, Region.binds, List.filterMap_cons, List.filterMap_nil, if_true, List.nil_append, List.cons_append, List.getD_cons_zero, List.getD_cons_succ] at hH
            simp only [fillPuts, Act.put, List.setIfInBounds_toArray, List.set_cons_zero, List.set_cons_succ, Nat.reduceAdd]
            go_wp2_with fail
            refine ⟨rfl, rfl, by (repeat' (first | (with_reducible exact Below.refl _ _) | (with_reducible assumption) | (with_reducible refine Below.alloc ?_ ?_ _) | (with_reducible refine below_grew ?_ ?_ _) | (with_reducible refine Below.setCell ?_ ?_ _) | (with_reducible refine Below.drew ?_) | (with_reducible refine below_drewN ?_ _) | omega | (simp; done) | (simp; omega))), ?_⟩
            conv => lhs; whnf
            try rfl
          · exact fun _ => rfl
          simp only [List.nil_append, List.cons_append, Nat.reduceAdd]
          refine wpInv_det (by kernel_rfl) (by kernel_rfl) ?_
          apply Exists.intro
          refine ⟨?_, ?_, ?_⟩
          · intro U W hC hH
            obtain ⟨hc1, hf1⟩ := bcell hC
            simp only [HypsU, predsOf, Region.binds, List.filterMap_cons, List.filterMap_nil, if_true, List.nil_append, List.cons_append, List.getD_cons_zero, List.getD_cons_succ] at hH
            simp only [fillPuts, Act.put, List.setIfInBounds_toArray, List.set_cons_zero, List.set_cons_succ, Nat.reduceAdd]
            go_wp2_with fail
            refine ⟨rfl, rfl, by (repeat' (first | (with_reducible exact Below.refl _ _) | (with_reducible assumption) | (with_reducible refine Below.alloc ?_ ?_ _) | (with_reducible refine below_grew ?_ ?_ _) | (with_reducible refine Below.setCell ?_ ?_ _) | (with_reducible refine Below.drew ?_) | (with_reducible refine below_drewN ?_ _) | omega | (simp; done) | (simp; omega))), ?_⟩
            conv => lhs; whnf
            try rfl
          · exact fun _ => rfl
          simp only [List.nil_append, List.cons_append, Nat.reduceAdd]
          refine wpInv_det (by kernel_rfl) (by kernel_rfl) ?_
          apply Exists.intro
          refine ⟨?_, ?_, ?_⟩
          · intro U W hC hH
            obtain ⟨hc1, hf1⟩ := bcell hC
            simp only [HypsU, predsOf, Region.binds, List.filterMap_cons, List.filterMap_nil, if_true, List.nil_append, List.cons_append, List.getD_cons_zero, List.getD_cons_succ] at hH
            simp only [fillPuts, Act.put, List.setIfInBounds_toArray, List.set_cons_zero, List.set_cons_succ, Nat.reduceAdd]
            go_wp2_with fail
            refine ⟨rfl, rfl, by (repeat' (first | (with_reducible exact Below.refl _ _) | (with_reducible assumption) | (with_reducible refine Below.alloc ?_ ?_ _) | (with_reducible refine below_grew ?_ ?_ _) | (with_reducible refine Below.setCell ?_ ?_ _) | (with_reducible refine Below.drew ?_) | (with_reducible refine below_drewN ?_ _) | omega | (simp; done) | (simp; omega))), ?_⟩
            conv => lhs; whnf
            try rfl
          · exact fun _ => rfl
          simp only [List.nil_append, List.cons_append, Nat.reduceAdd]
          refine wpInv_det (by kernel_rfl) (by kernel_rfl) ?_
          apply Exists.intro
          refine ⟨?_, ?_, ?_⟩
          · intro U W hC hH
            obtain ⟨hc1, hf1⟩ := bcell hC
            simp only [HypsU, predsOf, Region.binds, List.filterMap_cons, List.filterMap_nil, if_true, List.nil_append, List.cons_append, List.getD_cons_zero, List.getD_cons_succ] at hH
            simp only [fillPuts, Act.put, List.setIfInBounds_toArray, List.set_cons_zero, List.set_cons_succ, Nat.reduceAdd]
            go_wp2_with fail
            refine ⟨rfl, rfl, by (repeat' (first | (with_reducible exact Below.refl _ _) | (with_reducible assumption) | (with_reducible refine Below.alloc ?_ ?_ _) | (with_reducible refine below_grew ?_ ?_ _) | (with_reducible refine Below.setCell ?_ ?_ _) | (with_reducible refine Below.drew ?_) | (with_reducible refine below_drewN ?_ _) | omega | (simp; done) | (simp; omega))), ?_⟩
            conv => lhs; whnf
            try rfl
          · exact fun _ => rfl
          simp only [List.nil_append, List.cons_append, Nat.reduceAdd]
          simp only [List.nil_append, List.cons_append, Nat.reduceAdd, fillPuts, Act.put, List.setIfInBounds_toArray, List.set_cons_zero, List.set_cons_succ]
          rintro U W2 hC ⟨h0, h1, h2, h3, h4, h5, h6, h7, h8, h9, h10, h11, -⟩ -
          simp only [h0, h1, h2, h3, h4, h5, h6, h7, h8, h9, h10, h11]
          clear h0 h1 h2 h3 h4 h5 h6 h7 h8 h9 h10 h11
          have HB4 := Lib.hid (HB3.out.trans (hC.mono (by omega)))
          have hb4 := (hC.block B hwB).trans HCB3.out
          have hz4 := (hC.block (B + 1) (by omega)).trans HCZ3.out
          have hr4 := (hC.block (B + 2) hwB2).trans HCR3.out
          have hs4 : B + 2 < W2.heap.size := Nat.lt_of_lt_of_le hwB2 hC.size
          have m1 := (block_facts hr4).1 (10 + c * 32 + i)
          rw [ag_get _ _ _ _ (by omega)] at m1
          have m2 := (block_facts hr4).2.1 (10 + c * 32 + i)
          have hx2 := hst (10 + c * 32 + i) (by omega) (by omega)
          rw [hx] at hx2
          rw [show wrap64 x = x from w64_id (by omega) (by omega)]
          have HX := Lib.hid hx
          have HB4' := Lib.hid hb4
          have HZ4 := Lib.hid hz4
          have HR4 := Lib.hid hr4
          clear hC r0 hx2 hx hb4 hz4 hr4
          go_wp2_with fail
          refine cut_world (fun W => Below B w W ∧ B + 2 < W.heap.size ∧ W.heap[B]? = some (.cells (ag kS 142 st) St (0, 0)) ∧ W.heap[B + 1]? = some (.cells Tryd.zeroCells42 Rt (0, 0)) ∧ W.heap[B + 2]? = some (.cells (ag kP 142 (updI g (10 + c * 32 + i) x)) Rt (0, 0))) ⟨?_, ?_, ?_, ?_, ?_⟩ ?_
          · have := HB4.out
            (repeat' (first | (with_reducible exact Below.refl _ _) | (with_reducible assumption) | (with_reducible refine Below.alloc ?_ ?_ _) | (with_reducible refine below_grew ?_ ?_ _) | (with_reducible refine Below.setCell ?_ ?_ _) | (with_reducible refine Below.drew ?_) | (with_reducible refine below_drewN ?_ _) | omega | (simp; done) | (simp; omega)))
          · simpa using hs4
          · exact (Below.heap_setCell W2 ⟨B + 1 + 1, 10 + c * 32 + i, none⟩ _ B (by simp; omega)).trans HB4'.out
          · exact (Below.heap_setCell W2 ⟨B + 1 + 1, 10 + c * 32 + i, none⟩ _ (B + 1) (by simp)).trans HZ4.out
          · have := ag_store HR4.out (10 + c * 32 + i) (by omega) x
            rw [show kP (10 + c * 32 + i) = .i64 from by unfold kP; rw [if_neg (by omega)]] at this
            exact this
          clear m1 m2 hs4 HB4 HB4' HZ4 HR4
          rintro W3 ⟨hB, hs5, hb, hz, hr⟩
          have HB5 := Lib.hid hB
          have HCB5 := Lib.hid hb
          have HCZ5 := Lib.hid hz
          have HCR5 := Lib.hid hr
          clear hB hb hz hr
          have r0 : W3.cell? ⟨B, 74 + c * 32 + i, none⟩ = some (.int .i32 (st (74 + c * 32 + i))) := by
            rw [ag_cell HCB5.out (74 + c * 32 + i) (by omega), show kS (74 + c * 32 + i) = .i32 from by unfold kS; rw [if_neg (by omega), if_pos (by omega)]]
          have hwB5 : B < W3.heap.size := by omega
          have hwB6 : B + 2 < W3.heap.size := hs5
          generalize hy : st (74 + c * 32 + i) = y at r0
          refine wp_region_inv [] (fun W => Below W3.heap.size W3 W) (fun W W' => Below W.heap.size W W') 12 (by kernel_rfl) (by kernel_rfl) (by kernel_rfl) ((Below.refl _ _).drew) (fun W W' h h' => h.trans (h'.mono h.size)) (fun _ _ h => h.size) ?_
          simp only [List.take_succ_cons, List.take_zero, List.drop_succ_cons, List.drop_zero]
          refine wpInv_det (by kernel_rfl) (by kernel_rfl) ?_
          apply Exists.intro
          refine ⟨?_, ?_, ?_⟩
          · intro U W hC hH
            obtain ⟨hc1, hf1⟩ := bcell hC
            simp only [HypsU, predsOf, Region.binds, List.filterMap_cons, List.filterMap_nil, if_true, List.nil_append, List.cons_append, List.getD_cons_zero, List.getD_cons_succ] at hH
            simp only [fillPuts, Act.put, List.setIfInBounds_toArray, List.set_cons_zero, List.set_cons_succ, Nat.reduceAdd]
            go_wp2_with fail
            refine ⟨rfl, rfl, by (repeat' (first | (with_reducible exact Below.refl _ _) | (with_reducible assumption) | (with_reducible refine Below.alloc ?_ ?_ _) | (with_reducible refine below_grew ?_ ?_ _) | (with_reducible refine Below.setCell ?_ ?_ _) | (with_reducible refine Below.drew ?_) | (with_reducible refine below_drewN ?_ _) | omega | (simp; done) | (simp; omega))), ?_⟩
            conv => lhs; whnf
            try rfl
          · exact fun _ => rfl
          simp only [List.nil_append, List.cons_append, Nat.reduceAdd]
          refine wpInv_det (by kernel_rfl) (by kernel_rfl) ?_
          apply Exists.intro
          refine ⟨?_, ?_, ?_⟩
          · intro U W hC hH
            obtain ⟨hc1, hf1⟩ := bcell hC
            simp only [HypsU, predsOf, Region.binds, List.filterMap_cons, List.filterMap_nil, if_true, List.nil_append, List.cons_append, List.getD_cons_zero, List.getD_cons_succ] at hH
            simp only [fillPuts, Act.put, List.setIfInBounds_toArray, List.set_cons_zero, List.set_cons_succ, Nat.reduceAdd]
            go_wp2_with fail
            refine ⟨rfl, rfl, by (repeat' (first | (with_reducible exact Below.refl _ _) | (with_reducible assumption) | (with_reducible refine Below.alloc ?_ ?_ _) | (with_reducible refine below_grew ?_ ?_ _) | (with_reducible refine Below.setCell ?_ ?_ _) | (with_reducible refine Below.drew ?_) | (with_reducible refine below_drewN ?_ _) | omega | (simp; done) | (simp; omega))), ?_⟩
            conv => lhs; whnf
            try rfl
          · exact fun _ => rfl
          simp only [List.nil_append, List.cons_append, Nat.reduceAdd]
          refine wpInv_det (by kernel_rfl) (by kernel_rfl) ?_
          apply Exists.intro
          refine ⟨?_, ?_, ?_⟩
          · intro U W hC hH
            obtain ⟨hc1, hf1⟩ := bcell hC
            simp only [HypsU, predsOf, Region.binds, List.filterMap_cons, List.filterMap_nil, if_true, List.nil_append, List.cons_append, List.getD_cons_zero, List.getD_cons_succ] at hH
            simp only [fillPuts, Act.put, List.setIfInBounds_toArray, List.set_cons_zero, List.set_cons_succ, Nat.reduceAdd]
            go_wp2_with fail
            refine ⟨rfl, rfl, by (repeat' (first | (with_reducible exact Below.refl _ _) | (with_reducible assumption) | (with_reducible refine Below.alloc ?_ ?_ _) | (with_reducible refine below_grew ?_ ?_ _) | (with_reducible refine Below.setCell ?_ ?_ _) | (with_reducible refine Below.drew ?_) | (with_reducible refine below_drewN ?_ _) | omega | (simp; done) | (simp; omega))), ?_⟩
            conv => lhs; whnf
            try rfl
          · exact fun _ => rfl
          simp only [List.nil_append, List.cons_append, Nat.reduceAdd]
          refine wpInv_det (by kernel_rfl) (by kernel_rfl) ?_
          apply Exists.intro
          refine ⟨?_, ?_, ?_⟩
          · intro U W hC hH
            obtain ⟨hc1, hf1⟩ := bcell hC
            simp only [HypsU, predsOf, Region.binds, List.filterMap_cons, List.filterMap_nil, if_true, List.nil_append, List.cons_append, List.getD_cons_zero, List.getD_cons_succ] at hH
            simp only [fillPuts, Act.put, List.setIfInBounds_toArray, List.set_cons_zero, List.set_cons_succ, Nat.reduceAdd]
            go_wp2_with fail
            refine ⟨rfl, rfl, by (repeat' (first | (with_reducible exact Below.refl _ _) | (with_reducible assumption) | (with_reducible refine Below.alloc ?_ ?_ _) | (with_reducible refine below_grew ?_ ?_ _) | (with_reducible refine Below.setCell ?_ ?_ _) | (with_reducible refine Below.drew ?_) | (with_reducible refine below_drewN ?_ _) | omega | (simp; done) | (simp; omega))), ?_⟩
            conv => lhs; whnf
            try rfl
          · exact fun _ => rfl
          simp only [List.nil_append, List.cons_append, Nat.reduceAdd]
          refine wpInv_det (by kernel_rfl) (by kernel_rfl) ?_
          apply Exists.intro
          refine ⟨?_, ?_, ?_⟩
          · intro U W hC hH
            obtain ⟨hc1, hf1⟩ := bcell hC
            simp only [HypsU, predsOf, Region.binds, List.filterMap_cons, List.filterMap_nil, if_true, List.nil_append, List.cons_append, List.getD_cons_zero, List.getD_cons_succ] at hH
            simp only [fillPuts, Act.put, List.setIfInBounds_toArray, List.set_cons_zero, List.set_cons_succ, Nat.reduceAdd]
            go_wp2_with fail
            refine ⟨rfl, rfl, by (repeat' (first | (with_reducible exact Below.refl _ _) | (with_reducible assumption) | (with_reducible refine Below.alloc ?_ ?_ _) | (with_reducible refine below_grew ?_ ?_ _) | (with_reducible refine Below.setCell ?_ ?_ _) | (with_reducible refine Below.drew ?_) | (with_reducible refine below_drewN ?_ _) | omega | (simp; done) | (simp; omega))), ?_⟩
            conv => lhs; whnf
            try rfl
          · exact fun _ => rfl
          simp only [List.nil_append, List.cons_append, Nat.reduceAdd]
          refine wpInv_det (by kernel_rfl) (by kernel_rfl) ?_
          apply Exists.intro
          refine ⟨?_, ?_, ?_⟩
          · intro U W hC hH
            obtain ⟨hc1, hf1⟩ := bcell hC
            simp only [HypsU, predsOf, Region.binds, List.filterMap_cons, List.filterMap_nil, if_true, List.nil_append, List.cons_append, List.getD_cons_zero, List.getD_cons_succ] at hH
            simp only [fillPuts, Act.put, List.setIfInBounds_toArray, List.set_cons_zero, List.set_cons_succ, Nat.reduceAdd]
            go_wp2_with fail
            refine ⟨rfl, rfl, by (repeat' (first | (with_reducible exact Below.refl _ _) | (with_reducible assumption) | (with_reducible refine Below.alloc ?_ ?_ _) | (with_reducible refine below_grew ?_ ?_ _) | (with_reducible refine Below.setCell ?_ ?_ _) | (with_reducible refine Below.drew ?_) | (with_reducible refine below_drewN ?_ _) | omega | (simp; done) | (simp; omega))), ?_⟩
            conv => lhs; whnf
            try rfl
          · exact fun _ => rfl
          simp only [List.nil_append, List.cons_append, Nat.reduceAdd]
          refine wpInv_det (by kernel_rfl) (by kernel_rfl) ?_
          apply Exists.intro
          refine ⟨?_, ?_, ?_⟩
          · intro U W hC hH
            obtain ⟨hc1, hf1⟩ := bcell hC
            simp only [HypsU, predsOf, Region.binds, List.filterMap_cons, List.filterMap_nil, if_true, List.nil_append, List.cons_append, List.getD_cons_zero, List.getD_cons_succ] at hH
            simp only [fillPuts, Act.put, List.setIfInBounds_toArray, List.set_cons_zero, List.set_cons_succ, Nat.reduceAdd]
            go_wp2_with fail
            refine ⟨rfl, rfl, by (repeat' (first | (with_reducible exact Below.refl _ _) | (with_reducible assumption) | (with_reducible refine Below.alloc ?_ ?_ _) | (with_reducible refine below_grew ?_ ?_ _) | (with_reducible refine Below.setCell ?_ ?_ _) | (with_reducible refine Below.drew ?_) | (with_reducible refine below_drewN ?_ _) | omega | (simp; done) | (simp; omega))), ?_⟩
            conv => lhs; whnf
            try rfl
          · exact fun _ => rfl
          simp only [List.nil_append, List.cons_append, Nat.reduceAdd]
          refine wpInv_det (by kernel_rfl) (by kernel_rfl) ?_
          apply Exists.intro
          refine ⟨?_, ?_, ?_⟩
          · intro U W hC hH
            obtain ⟨hc1, hf1⟩ := bcell hC
            simp only [HypsU, predsOf, Region.binds, List.filterMap_cons, List.filterMap_nil, if_true, List.nil_append, List.cons_append, List.getD_cons_zero, List.getD_cons_succ] at hH
            simp only [fillPuts, Act.put, List.setIfInBounds_toArray, List.set_cons_zero, List.set_cons_succ, Nat.reduceAdd]
            go_wp2_with fail
            refine ⟨rfl, rfl, by (repeat' (first | (with_reducible exact Below.refl _ _) | (with_reducible assumption) | (with_reducible refine Below.alloc ?_ ?_ _) | (with_reducible refine below_grew ?_ ?_ _) | (with_reducible refine Below.setCell ?_ ?_ _) | (with_reducible refine Below.drew ?_) | (with_reducible refine below_drewN ?_ _) | omega | (simp; done) | (simp; omega))), ?_⟩
            conv => lhs; whnf
            try rfl
          · exact fun _ => rfl
          simp only [List.nil_append, List.cons_append, Nat.reduceAdd]
          refine wpInv_det (by kernel_rfl) (by kernel_rfl) ?_
          apply Exists.intro
          refine ⟨?_, ?_, ?_⟩
          · intro U W hC hH
            obtain ⟨hc1, hf1⟩ := bcell hC
            simp only [HypsU, predsOf, Region.binds, List.filterMap_cons, List.filterMap_nil, if_true, List.nil_append, List.cons_append, List.getD_cons_zero, List.getD_cons_succ] at hH
            simp only [fillPuts, Act.put, List.setIfInBounds_toArray, List.set_cons_zero, List.set_cons_succ, Nat.reduceAdd]
            go_wp2_with fail
            refine ⟨rfl, rfl, by (repeat' (first | (with_reducible exact Below.refl _ _) | (with_reducible assumption) | (with_reducible refine Below.alloc ?_ ?_ _) | (with_reducible refine below_grew ?_ ?_ _) | (with_reducible refine Below.setCell ?_ ?_ _) | (with_reducible refine Below.drew ?_) | (with_reducible refine below_drewN ?_ _) | omega | (simp; done) | (simp; omega))), ?_⟩
            conv => lhs; whnf
            try rfl
          · exact fun _ => rfl
          simp only [List.nil_append, List.cons_append, Nat.reduceAdd]
          refine wpInv_det (by kernel_rfl) (by kernel_rfl) ?_
          apply Exists.intro
          refine ⟨?_, ?_, ?_⟩
          · intro U W hC hH
            obtain ⟨hc1, hf1⟩ := bcell hC
            simp only [HypsU, predsOf, Region.binds, List.filterMap_cons, List.filterMap_nil, if_true, List.nil_append, List.cons_append, List.getD_cons_zero, List.getD_cons_succ] at hH
            simp only [fillPuts, Act.put, List.setIfInBounds_toArray, List.set_cons_zero, List.set_cons_succ, Nat.reduceAdd]
            go_wp2_with fail
            refine ⟨rfl, rfl, by (repeat' (first | (with_reducible exact Below.refl _ _) | (with_reducible assumption) | (with_reducible refine Below.alloc ?_ ?_ _) | (with_reducible refine below_grew ?_ ?_ _) | (with_reducible refine Below.setCell ?_ ?_ _) | (with_reducible refine Below.drew ?_) | (with_reducible refine below_drewN ?_ _) | omega | (simp; done) | (simp; omega))), ?_⟩
            conv => lhs; whnf
            try rfl
          · exact fun _ => rfl
          simp only [List.nil_append, List.cons_append, Nat.reduceAdd]
          refine wpInv_det (by kernel_rfl) (by kernel_rfl) ?_
          apply Exists.intro
          refine ⟨?_, ?_, ?_⟩
          · intro U W hC hH
            obtain ⟨hc1, hf1⟩ := bcell hC
            simp only [HypsU, predsOf, Region.binds, List.filterMap_cons, List.filterMap_nil, if_true, List.nil_append, List.cons_append, List.getD_cons_zero, List.getD_cons_succ] at hH
            simp only [fillPuts, Act.put, List.setIfInBounds_toArray, List.set_cons_zero, List.set_cons_succ, Nat.reduceAdd]
            go_wp2_with fail
            refine ⟨rfl, rfl, by (repeat' (first | (with_reducible exact Below.refl _ _) | (with_reducible assumption) | (with_reducible refine Below.alloc ?_ ?_ _) | (with_reducible refine below_grew ?_ ?_ _) | (with_reducible refine Below.setCell ?_ ?_ _) | (with_reducible refine Below.drew ?_) | (with_reducible refine below_drewN ?_ _) | omega | (simp; done) | (simp; omega))), ?_⟩
            conv => lhs; whnf
            try rfl
          · exact fun _ => rfl
          simp only [List.nil_append, List.cons_append, Nat.reduceAdd]
          refine wpInv_det (by kernel_rfl) (by kernel_rfl) ?_
          apply Exists.intro
          refine ⟨?_, ?_, ?_⟩
          · intro U W hC hH
            obtain ⟨hc1, hf1⟩ := bcell hC
            simp only [HypsU, predsOf, Region.binds, List.filterMap_cons, List.filterMap_nil, if_true, List.nil_append, List.cons_append, List.getD_cons_zero, List.getD_cons_succ] at hH
            simp only [fillPuts, Act.put, List.setIfInBounds_toArray, List.set_cons_zero, List.set_cons_succ, Nat.reduceAdd]
            go_wp2_with fail
            refine ⟨rfl, rfl, by (repeat' (first | (with_reducible exact Below.refl _ _) | (with_reducible assumption) | (with_reducible refine Below.alloc ?_ ?_ _) | (with_reducible refine below_grew ?_ ?_ _) | (with_reducible refine Below.setCell ?_ ?_ _) | (with_reducible refine Below.drew ?_) | (with_reducible refine below_drewN ?_ _) | omega | (simp; done) | (simp; omega))), ?_⟩
            conv => lhs; whnf
            try rfl
          · exact fun _ => rfl
          simp only [List.nil_append, List.cons_append, Nat.reduceAdd]
          simp only [List.nil_append, List.cons_append, Nat.reduceAdd, fillPuts, Act.put, List.setIfInBounds_toArray, List.set_cons_zero, List.set_cons_succ]
          rintro U4 W4 hC ⟨h0, h1, h2, h3, h4, h5, h6, h7, h8, h9, h10, h11, -⟩ -
          simp only [h0, h1, h2, h3, h4, h5, h6, h7, h8, h9, h10, h11]
          clear h0 h1 h2 h3 h4 h5 h6 h7 h8 h9 h10 h11
          have HB4 := Lib.hid (HB5.out.trans (hC.mono (by omega)))
          have hb4 := (hC.block B hwB5).trans HCB5.out
          have hz4 := (hC.block (B + 1) (by omega)).trans HCZ5.out
          have hr4 := (hC.block (B + 2) hwB6).trans HCR5.out
          have hs4 : B + 2 < W4.heap.size := Nat.lt_of_lt_of_le hwB6 hC.size
          have m1 := (block_facts hr4).1 (74 + c * 32 + i)
          rw [ag_get _ _ _ _ (by omega)] at m1
          have m2 := (block_facts hr4).2.1 (74 + c * 32 + i)
          have hx2 := hst (74 + c * 32 + i) (by omega) (by omega)
          rw [hy] at hx2
          rw [show wrap64 y = y from w64_id (by omega) (by omega)]
          have HY := Lib.hid hy
          have HB4' := Lib.hid hb4
          have HZ4 := Lib.hid hz4
          have HR4 := Lib.hid hr4
          clear hC r0 hx2 hy hb4 hz4 hr4
          go_wp2_with fail
          go_roundw
          case rel =>
            refine ⟨i + 1, updI (updI g (10 + c * 32 + i) x) (74 + c * 32 + i) y, by omega, rfl, by have := HB4.out; (repeat' (first | (with_reducible exact Below.refl _ _) | (with_reducible assumption) | (with_reducible refine Below.alloc ?_ ?_ _) | (with_reducible refine below_grew ?_ ?_ _) | (with_reducible refine Below.setCell ?_ ?_ _) | (with_reducible refine Below.drew ?_) | (with_reducible refine below_drewN ?_ _) | omega | (simp; done) | (simp; omega))), by simpa using hs4, ?_, ?_, ?_, ?_⟩
            · exact (Below.heap_setCell W4 ⟨B + 1 + 1, 74 + c * 32 + i, none⟩ _ B (by simp; omega)).trans HB4'.out
            · exact (Below.heap_setCell W4 ⟨B + 1 + 1, 74 + c * 32 + i, none⟩ _ (B + 1) (by simp)).trans HZ4.out
            · have := ag_store HR4.out (74 + c * 32 + i) (by omega) y
              rw [show kP (74 + c * 32 + i) = .i64 from by unfold kP; rw [if_neg (by omega)]] at this
              exact this
            · intro j hj h
              unfold updI
              by_cases e1 : j = 74 + c * 32 + i
              · rw [if_pos e1, e1, HY.out]
              · rw [if_neg e1]
                by_cases e2 : j = 10 + c * 32 + i
                · rw [if_pos e2, e2, HX.out]
                · rw [if_neg e2]; exact HG.out j hj (by omega)
          case measure => simp [intOf]; omega
        · have hlt2' : ¬ (i : Int) < 32 := by omega
          obtain rfl : i = 32 := by omega
          go_wp2_with fail
          go_roundw
          case rel => exact ⟨c + 1, g, by omega, rfl, HB3.out, hs2, HCB3.out, HCZ3.out, HCR3.out, fun j hj h => HG.out j hj (by omega)⟩
          case measure => simp [intOf]; omega
    · have hlt' : ¬ (c : Int) < 2 := by omega
      obtain rfl : c = 2 := by omega
      have hall := ag_ext kP 142 f st (fun j hj => HF.out j hj (by omega))
      have hcr := HCR.out
      rw [hall] at hcr
      have HCR2 := Lib.hid hcr
      clear hcr hall
      go_wp2_with (first | (refine wpList_load_row rfl Rt _ rfl (B + 2) rfl _ (ag kP 142 st) (0, 0) _ HCR2.out Tryd.underlying42 rfl ?hin ?_; (case hin => exact infoR_ag st)) | (refine wpList_store_mid rfl Rt _ _ rfl (B + 1) 0 (ag kP 142 st) rfl rfl ?hth ?hin ?hon ?_; (case hth => exact there42 HCZ.out _); (case hin => exact infoR_ag st); (case hon => exact ag_one kP 142 st)))
      have hfin : Below B w (wr.setCells (B + 1) 0 (ag kP 142 st).toList) := below_cells HB.out (by omega) _
      have q1 := cells_all HCZ.out (N := 142) zero42_size (cs := ag kP 142 st) (ag_size _ _ _)
      refine bodyPost_ret (v := .agg (ag kP 142 st)) ?_ rfl ⟨by rfl, ?_⟩
      · exact results_cell_row rfl _ _ (B + 1) _ _ _ _ rfl q1 Tryd.underlying42 rfl (infoR_ag _)
      · rw [HBd.out]; exact hfin
end Go.Proofs.YtmcjbejccelagaaDoor
end

section
namespace Go.Proofs.YtmcjbejccelagaaDoor
open Go.RowKit Go.BigFrame Go.Proofs.YtmcjbejccelagaaDoorW.PrintWords Go.Proofs.YtmcjbejccelagaaDoorW.PrintLast Go.Proofs.YtmcjbejccelagaaDoorW.PrintMore
set_option linter.unusedSimpArgs false
set_option linter.unusedVariables false
/-- One block has been written, no other one. -/
structure Only (B : Nat) (w w' : World) : Prop where
  os : w'.os = w.os
  tape : w'.tape = w.tape
  output : w'.output = w.output
  size : w'.heap.size = w.heap.size
  block : ∀ k, k ≠ B → w'.heap[k]? = w.heap[k]?
theorem Only.below {B C : Nat} {w0 w w' : World} (h : Only B w w') (hb : Below C w0 w) (hB : C ≤ B) : Below C w0 w' :=
  hb.trans ⟨h.os, h.tape, h.output, Nat.le_of_eq h.size.symm, fun k hk => h.block k (by omega)⟩
theorem Only.setCell {w w' : World} {p : Addr} (v : Value) (h : Only p.block w w') : Only p.block w (w'.setCell p v) :=
  ⟨h.os, h.tape, h.output, by rw [← h.size]; simp, fun k hk => (Below.heap_setCell w' p v k hk).trans (h.block k hk)⟩
theorem Only.refl (B : Nat) (w : World) : Only B w w := ⟨rfl, rfl, rfl, rfl, fun _ _ => rfl⟩
theorem Only.trans {B : Nat} {a b c : World} (h : Only B a b) (k : Only B b c) : Only B a c :=
  ⟨k.os.trans h.os, k.tape.trans h.tape, k.output.trans h.output, k.size.trans h.size, fun i hi => (k.block i hi).trans (h.block i hi)⟩
theorem only_setCell (w : World) (p : Addr) (v : Value) : Only p.block w (w.setCell p v) := (Only.refl _ w).setCell v
theorem only_setCells (w : World) (g o : Nat) (vs : List Value) : Only g w (w.setCells g o vs) := by
  obtain ⟨h1, h2, h3, h4⟩ := setCells_same g vs o w
  exact ⟨h1, h2, h3, h4, fun k hk => setCells_far vs o k hk⟩
theorem only_setRow (w : World) (g : Nat) (cs : Array Value) : Only g w (w.setRow g cs) :=
  ⟨rfl, rfl, rfl, by simp [World.setRow], fun k hk => setRow_other w g k cs hk⟩
theorem R_only {α : Type} {d : Kd α} {e base B : Nat} {w w1 : World} {v : Value} {xs : List α} (h : d.R e w base (fun _ => True) v xs) (ho : Only B w w1) (hB : B < base) : d.R e w1 base (fun _ => True) v xs :=
  Kd.R_mono (Kd.R_move (Kd.R_bound h) (fun k hk => ho.block k (by have := hk.2.1; omega))) (fun _ _ => trivial)
abbrev Bx (B : Nat) (T : TypeId) (k : Nat → IntKind) (N : Nat) (f : Nat → Int) (w : World) : Prop := w.heap[B]? = some (.cells (ag k N f) T (0, 0))
theorem Bx.keep {B T k N f} {w w' : World} (h : Bx B T k N f w) (hb : Below w.heap.size w w') : Bx B T k N f w' := (hb.block B (block_facts h).2.2).trans h
theorem Bx.only {B C T k N f} {w w' : World} (h : Bx B T k N f w) (ho : Only C w w') (hne : B ≠ C) : Bx B T k N f w' := (ho.block B hne).trans h
/-- Places from o on hold other numbers. -/
def overF (f : Nat → Int) (o : Nat) (xs : List Int) : Nat → Int := fun j => if o ≤ j ∧ j < o + xs.length then xs.getD (j - o) 0 else f j
theorem ag_toList (k : Nat → IntKind) (N : Nat) (f : Nat → Int) : (ag k N f).toList = (List.range N).map fun i => Value.int (k i) (f i) := by simp [ag]
theorem splice_ag (k : Nat → IntKind) (κ : IntKind) (N : Nat) (f : Nat → Int) (o : Nat) (xs : List Int) (hN : o + xs.length ≤ N) (hk : ∀ j, o ≤ j → j < o + xs.length → k j = κ) :
    (ag k N f).toList.take o ++ (xs.map (Value.int κ) ++ (ag k N f).toList.drop (o + (xs.map (Value.int κ)).length)) = (ag k N (overF f o xs)).toList := by
  rw [List.length_map]
  apply List.ext_getElem?
  intro j
  rw [ag_toList, ag_toList]
  by_cases h1 : j < o
  · rw [List.getElem?_append_left (by simp; omega), List.getElem?_take, if_pos h1]
    simp only [List.getElem?_map, List.getElem?_range (show j < N by omega), Option.map_some]
    rw [show overF f o xs j = f j from by unfold overF; rw [if_neg (by omega)]]
  · rw [List.getElem?_append_right (by simp; omega)]
    have hl : ((List.map (fun i => Value.int (k i) (f i)) (List.range N)).take o).length = o := by simp; omega
    rw [hl]
    by_cases h2 : j < o + xs.length
    · rw [List.getElem?_append_left (by simp; omega)]
      simp only [List.getElem?_map, List.getElem?_range (show j < N by omega), Option.map_some]
      rw [show overF f o xs j = xs.getD (j - o) 0 from by unfold overF; rw [if_pos (by omega)], hk j (by omega) h2, List.getD_eq_getElem?_getD, List.getElem?_eq_getElem (show j - o < xs.length by omega)]
      rfl
    · rw [List.getElem?_append_right (by simp; omega), List.getElem?_drop, List.length_map, show o + xs.length + (j - o - xs.length) = j from by omega]
      by_cases h3 : j < N
      · simp only [List.getElem?_map, List.getElem?_range h3, Option.map_some]
        rw [show overF f o xs j = f j from by unfold overF; rw [if_neg (by omega)]]
      · rw [List.getElem?_eq_none (by simp; omega), List.getElem?_eq_none (by simp; omega)]
theorem bx_setCells {B T k N f} {w : World} (h : Bx B T k N f w) (κ : IntKind) (o : Nat) (xs : List Int) (hN : o + xs.length ≤ N) (hk : ∀ j, o ≤ j → j < o + xs.length → k j = κ) :
    Bx B T k N (overF f o xs) (w.setCells B o (xs.map (Value.int κ))) := by
  obtain ⟨cur, h1, h2, h3⟩ := setCells_row (xs.map (Value.int κ)) o w _ h (by rw [ag_size, List.length_map]; exact hN)
  rw [List.append_assoc, splice_ag k κ N f o xs hN hk] at h3
  rw [Bx, h1, Array.ext' h3]
/-- A part of a block, as a row that is read. -/
theorem bx_reads {B T k N f} {w : World} (h : Bx B T k N f w) (κ : IntKind) (o n : Nat) (hN : o + n ≤ N) (hm : N ≤ 1000000) (hk : ∀ j, o ≤ j → j < o + n → k j = κ) :
    Kd.C (Kd.int κ) w (some ⟨B, o, none⟩) ((List.range n).map fun i => f (o + i)).length ((List.range n).map fun i => f (o + i)) := by
  refine ⟨rfl, by simp; omega, fun hn => ⟨_, rfl, fun j p hj => ⟨[.int κ p], rfl, rfl, fun i u hu => ?_⟩⟩⟩
  have hj' : j < n := by
    have := (List.getElem?_eq_some_iff.1 hj).1
    simpa using this
  simp only [List.getElem?_map, List.getElem?_range hj', Option.map_some, Option.some.injEq] at hj
  subst hj
  cases i with
  | zero =>
    obtain rfl : Value.int κ (f (o + j)) = u := by simpa using hu
    have e : (⟨B, o, none⟩ : Addr).add (j * (Kd.int κ).sz + 0) = ⟨B, o + j, none⟩ := by
      have : j * (Kd.int κ).sz + 0 = j := by show j * 1 + 0 = j; omega
      rw [this]; unfold Addr.add; split <;> simp_all
    rw [e, ag_cell h (o + j) (by omega), hk (o + j) (by omega) (by omega)]
  | succ i => simp at hu
section
variable {P : Program} {ops : Array Oper} {rest : List Oper} {o : Oper} {a : Act} {Q : Exit → Act → World → Prop}
/-- copy(block[off:off+dLen], row): a row of the call's own. -/
theorem copy_bx {w : World} (hgd : o.guard = none) (d s : Operand) (dT sT : TypeId) (ho : o.op = .call { callee := .builtin .copy, args := #[d, s], argTypes := #[dT, sT] })
    (elem : TypeId) (hu : P.underlying dT = some (.slice elem)) (hsz : (P.info? elem).map (·.size) = some 1) (B off dLen dCap sCap : Nat) (sp : Option Addr) (κ : IntKind) (xs : List Int)
    (hd : a.eval d = .slice (some ⟨B, off, none⟩) dLen dCap) (hs : a.eval s = .slice sp xs.length sCap) (hx : Kd.C (Kd.int κ) w sp xs.length xs) (hpos : 0 < xs.length) (hle : xs.length ≤ dLen)
    {T : TypeId} {k : Nat → IntKind} {N : Nat} {f : Nat → Int} (hB : Bx B T k N f w) (hN : off + xs.length ≤ N) (hk : ∀ j, off ≤ j → j < off + xs.length → k j = κ)
    (h : ∀ w', Only B w w' → Bx B T k N (overF f off xs) w' → wpList P ops Q rest (a.put o.dst (goInt xs.length)) w') : wpList P ops Q (o :: rest) a w := by
  obtain ⟨ad, rfl, hc⟩ := hx.2.2 hpos
  refine wpList_copy_own hgd d s dT sT ho elem hu hsz B off dLen dCap ad xs.length sCap hd hs (ag k N f) T hB (xs.map (Value.int κ)) (by rw [List.length_map]; exact (Nat.min_eq_left hle).symm) ?_ (by rw [List.length_map, ag_size]; exact hN) (fun v hv => by obtain ⟨x, _, rfl⟩ := List.mem_map.1 hv; rfl) ?_
  · intro j v hj
    obtain ⟨x, hx1, rfl⟩ := Option.map_eq_some_iff.1 ((List.getElem?_map ..).symm.trans hj)
    obtain ⟨c, h1, h2, h3⟩ := hc j x hx1
    have h2' : c = [Value.int κ x] := h2
    subst h2'
    have := h3 0 _ rfl
    have e : j * (Kd.int κ).sz + 0 = j := by show j * 1 + 0 = j; omega
    rw [e] at this
    exact this
  · rw [List.length_map]
    refine h _ (only_setRow _ _ _) ?_
    have e := splice_ag k κ N f off xs hN hk
    rw [List.length_map] at e
    rw [e]
    exact setRow_heap w B _ _ T _ hB
end
end Go.Proofs.YtmcjbejccelagaaDoor
namespace Go
open Go.RowKit
/-- One step of a region: what stands is kept, but a block of type T0, made since V, may have come to hold X. -/
structure TT (V : World) (T0 : TypeId) (X : Array Value) (W W' : World) : Prop where
  below : Below V.heap.size W W'
  other : ∀ (k : Nat) (cs : Array Value) (T : TypeId) (f : Nat × Nat), T ≠ T0 → W.heap[k]? = some (.cells cs T f) → W'.heap[k]? = some (.cells cs T f)
  own : ∀ (k : Nat) (cs : Array Value) (f : Nat × Nat), W.heap[k]? = some (.cells cs T0 f) → W'.heap[k]? = some (.cells cs T0 f) ∨ W'.heap[k]? = some (.cells X T0 (0, 0))
theorem TT.of_below {V W W' : World} {T0 : TypeId} {X : Array Value} (hs : V.heap.size ≤ W.heap.size) (h : Below W.heap.size W W') : TT V T0 X W W' :=
  ⟨h.mono hs, fun k _ _ _ _ hk => (h.block k (Array.getElem?_eq_some_iff.1 hk).1).trans hk, fun k _ _ hk => .inl ((h.block k (Array.getElem?_eq_some_iff.1 hk).1).trans hk)⟩
end Go
namespace Go.Proofs.YtmcjbejccelagaaDoor
open Go.RowKit Go.Proofs.YtmcjbejccelagaaDoorW.PrintWords
theorem TT_store {V W W' : World} {T0 : TypeId} {X cs : Array Value} {f : Nat × Nat} {q : Nat} (hq : V.heap.size ≤ q) (h0 : W.heap[q]? = some (.cells cs T0 f)) (ho : Only q W W') (h : W'.heap[q]? = some (.cells X T0 (0, 0))) : TT V T0 X W W' := by
  refine ⟨ho.below (Below.refl _ _) hq, fun k cs' T f' hne hk => ?_, fun k cs' f' hk => ?_⟩
  · by_cases e : k = q
    · subst e
      rw [h0] at hk
      injection hk with hk
      injection hk with _ hk _
      exact absurd hk.symm hne
    · exact (ho.block k e).trans hk
  · by_cases e : k = q
    · subst e; exact .inr h
    · exact .inl ((ho.block k e).trans hk)
theorem R_TT {α : Type} {d : Kd α} {e base : Nat} {V w w' : World} {T0 : TypeId} {X : Array Value} {ok : Nat → Prop} {v : Value} {xs : List α} (h : d.R e w base ok v xs) (ht : TT V T0 X w w') (hne : ∀ q, q ∈ e :: d.E → q ≠ T0) : d.R e w' base ok v xs :=
  Kd.R_mono (Kd.R_move (Kd.R_bound h) (fun k hk => by
    obtain ⟨_, _, _, q, hq, cells, hc⟩ := hk
    exact (ht.other k cells q _ (hne q hq) hc).trans hc.symm)) (fun k hk => hk.1)
end Go.Proofs.YtmcjbejccelagaaDoor
end

section
namespace Go.Proofs.YtmcjbejccelagaaDoor
open Go.RowKit
/-- A channel's history. -/
def histL (st : Nat → Int) (n c : Nat) : List Int := (List.range n).map fun i => st (74 + c * 32 + i)
theorem histL_len (st : Nat → Int) (n c : Nat) : (histL st n c).length = n := by simp [histL]
/-- One channel of it. -/
def loseC (n nb : Nat) (loss : Int) (c : Nat) (st : Nat → Int) : Nat → Int := fun j =>
  if 10 + c * 32 ≤ j ∧ j < 10 + c * 32 + n then 0
  else if 74 + c * 32 ≤ j ∧ j < 74 + c * 32 + n then madeAt (histL st n c) loss (j - (74 + c * 32))
  else if j = 138 + c then 0
  else if c * 5 ≤ j ∧ j < c * 5 + nb then max (st j) 2 - 2
  else st j
def lossOf (st : Nat → Int) : Int := min (max (st 141) 0) 1000 + 1
/-- So many channels of it, and the sound of each. -/
def loseTo (n nb : Nat) (loss : Int) (st : Nat → Int) : Nat → (Nat → Int)
  | 0 => st
  | c + 1 => loseC n nb loss c (loseTo n nb loss st c)
def sat16 (x : Int) : Int := max (min x 32767) (-32768)
def soundC (st : Nat → Int) (n c : Nat) (loss : Int) : List Int := (madeF (histL st n c) loss).map sat16
theorem madeF_len (l : List Int) (loss : Int) : (madeF l loss).length = l.length := by simp [madeF]
/-- A channel's history is not touched ahead of its turn. -/
theorem loseC_hist (n nb c d : Nat) (loss : Int) (st : Nat → Int) (hn : n ≤ 32) (hb : nb ≤ 5) (hc : c < 2) (hd : d < 2) (h : c ≠ d) : histL (loseC n nb loss c st) n d = histL st n d := by
  unfold histL
  apply List.map_congr_left
  intro i hi
  have hi' : i < n := by simpa using hi
  unfold loseC
  rw [if_neg (by omega), if_neg (by omega), if_neg (by omega), if_neg (by omega)]
end Go.Proofs.YtmcjbejccelagaaDoor
end

section
namespace Go
theorem results_row_tmp {P : Program} {fn : Func} {p u : Tmp} {ty : TypeId} (h : fn.results = #[.cell p ty, .tmp u]) (tmps : Array Value) (w : World) (g : Nat) (t : TypeId) (cs : Array Value) (fr : Nat × Nat) (d : TypeDesc) (v : Value)
    (hp : tmps.getD p undef = .pointer (some ⟨g, 0, none⟩)) (hv : tmps.getD u undef = v) (hg : w.heap[g]? = some (.cells cs t fr))
    (hu : P.underlying ty = some d) (hd : (match d with | .struct _ | .array _ _ => true | _ => false) = true) (hi : (P.info? ty).map (·.size) = some cs.size) :
    (results fn tmps).run P w = .ok (.tuple #[.agg cs, v]) w := by
  rw [results_cell_tmp h, hp, hv]
  simp [asAddr, run_loadVar_row w g t ty cs fr d hg hu hd hi, Result.andThen]
end Go
namespace Go.Proofs.YtmcjbejccelagaaDoor
open Go.RowKit Go.Proofs.YtmcjbejccelagaaDoorW.PrintWords
open PStateLoses RStateLoses
def mixF (l : List (List Int)) (n : Nat) : List Int := ((List.range n).map fun i => l.map fun x => x.getD i 0).flatten
theorem mixF_succ (l : List (List Int)) (n : Nat) : mixF l (n + 1) = mixF l n ++ l.map fun x => x.getD n 0 := by
  unfold mixF
  rw [List.range_succ, List.map_append, List.flatten_append]
  simp
theorem mixF_len (l : List (List Int)) : ∀ n, (mixF l n).length = n * l.length
  | 0 => by simp [mixF]
  | n + 1 => by rw [mixF_succ, List.length_append, mixF_len l n, List.length_map, Nat.add_mul, Nat.one_mul]
theorem drop_map_cons (l : List (List Int)) (i j : Nat) (h : j < l.length) : (l.drop j).map (fun x => x.getD i 0) = (l.getD j []).getD i 0 :: (l.drop (j + 1)).map (fun x => x.getD i 0) := by
  rw [List.drop_eq_getElem_cons h, List.map_cons, List.getD_eq_getElem?_getD (l := l), List.getElem?_eq_getElem h]; rfl
theorem len_at (l : List (List Int)) (n j : Nat) (hl : ∀ x ∈ l, x.length = n) (h : j < l.length) : (l.getD j []).length = n := by
  rw [List.getD_eq_getElem?_getD, List.getElem?_eq_getElem h]
  exact hl _ (List.getElem_mem h)
theorem mix_l1 (l : List (List Int)) (n : Nat) (hl : ∀ x ∈ l, x.length = n) (h2 : l.length ≤ 2) (i : Nat) (hi : i < n) (hn : n ≤ 32) : ∀ (d k j : Nat) (acc : List Int), j + d = l.length → acc.length + d ≤ 1000 →
    state_mix.l1 (k + d + 1) l acc (i : Int) n (i : Int) l (l.length : Int) (j : Int) = state_mix.l0 k l (acc ++ (l.drop j).map fun x => x.getD i 0) n ((i + 1 : Nat) : Int)
  | 0, k, j, acc, h, ha => by
    rw [Nat.add_zero, state_mix.l1, if_neg (by omega), wn_add1 (by omega), List.drop_of_length_le (by omega)]
    simp
  | d + 1, k, j, acc, h, ha => by
    have e : (rd_L2 l (j : Int)) = l.getD j [] := by unfold rd_L2; rw [Int.toNat_natCast]
    have hlen := len_at l n j hl (by omega)
    rw [show k + (d + 1) + 1 = (k + d + 1) + 1 from by omega, state_mix.l1, if_pos (by omega), if_pos (by omega), if_pos (by omega), if_pos (by omega), e, if_pos (by rw [hlen]; omega), if_pos (by omega), rd_nat, wn_add1 (by omega),
      mix_l1 l n hl h2 i hi hn d k (j + 1) _ (by omega) (by simp; omega), drop_map_cons l i j (by omega), List.append_assoc]
    rfl
theorem mix_l0 (l : List (List Int)) (n : Nat) (hl : ∀ x ∈ l, x.length = n) (h2 : l.length ≤ 2) (hn : n ≤ 32) : ∀ (d k i : Nat), i + d = n → 5 * d + 1 ≤ k → state_mix.l0 k l (mixF l i) n (i : Int) = some (mixF l n)
  | 0, k, i, h, hk => by
    obtain ⟨k, rfl⟩ : ∃ m, k = m + 1 := ⟨k - 1, by omega⟩
    rw [state_mix.l0, if_neg (by omega), show i = n from by omega]
  | d + 1, k, i, h, hk => by
    obtain ⟨k, rfl⟩ : ∃ m, k = m + l.length + 1 + 1 := ⟨k - l.length - 2, by omega⟩
    rw [state_mix.l0, if_pos (by omega)]
    have := mix_l1 l n hl h2 i (by omega) hn l.length k 0 (mixF l i) (by omega) (by
      rw [mixF_len]
      have : i * l.length ≤ 32 * 2 := Nat.mul_le_mul (by omega) h2
      omega)
    rw [show ((0 : Nat) : Int) = 0 from rfl] at this
    rw [this, List.drop_zero, ← mixF_succ]
    exact mix_l0 l n hl h2 hn d k (i + 1) (by omega) (by omega)
theorem mix_f (l : List (List Int)) (n : Nat) (hl : ∀ x ∈ l, x.length = n) (h2 : l.length ≤ 2) (hn : n ≤ 32) : state_mix.f 200 l n = some (mixF l n) := mix_l0 l n hl h2 hn n 200 0 (by omega) (by omega)
theorem rmix_l1 (l : List (List Int)) (n : Nat) (hl : ∀ x ∈ l, x.length = n) (h2 : l.length ≤ 2) (i : Nat) (hi : i < n) (hn : n ≤ 32) : ∀ (d k j : Nat) (acc : List Int), j + d = l.length → acc.length + d ≤ 1000 →
    spinetref26_Mix.l1 (k + d + 1) l n acc (i : Int) (j : Int) = spinetref26_Mix.l0 k l n (acc ++ (l.drop j).map fun x => x.getD i 0) ((i + 1 : Nat) : Int)
  | 0, k, j, acc, h, ha => by
    rw [Nat.add_zero, spinetref26_Mix.l1, if_neg (by omega), wn_add1 (by omega), List.drop_of_length_le (by omega)]
    simp
  | d + 1, k, j, acc, h, ha => by
    have e : (rd_L4 l (j : Int)) = l.getD j [] := by unfold rd_L4; rw [Int.toNat_natCast]
    have hlen := len_at l n j hl (by omega)
    rw [show k + (d + 1) + 1 = (k + d + 1) + 1 from by omega, spinetref26_Mix.l1, if_pos (by omega), if_pos (by omega), if_pos (by omega), e, if_pos (by rw [hlen]; omega), if_pos (by omega), rd_nat, wn_add1 (by omega),
      rmix_l1 l n hl h2 i hi hn d k (j + 1) _ (by omega) (by simp; omega), drop_map_cons l i j (by omega), List.append_assoc]
    rfl
theorem rmix_l0 (l : List (List Int)) (n : Nat) (hl : ∀ x ∈ l, x.length = n) (h2 : l.length ≤ 2) (hn : n ≤ 32) : ∀ (d k i : Nat), i + d = n → 5 * d + 1 ≤ k → spinetref26_Mix.l0 k l n (mixF l i) (i : Int) = some (mixF l n)
  | 0, k, i, h, hk => by
    obtain ⟨k, rfl⟩ : ∃ m, k = m + 1 := ⟨k - 1, by omega⟩
    rw [spinetref26_Mix.l0, if_neg (by omega), show i = n from by omega]
  | d + 1, k, i, h, hk => by
    obtain ⟨k, rfl⟩ : ∃ m, k = m + l.length + 1 + 1 := ⟨k - l.length - 2, by omega⟩
    rw [spinetref26_Mix.l0, if_pos (by omega)]
    have := rmix_l1 l n hl h2 i (by omega) hn l.length k 0 (mixF l i) (by omega) (by
      rw [mixF_len]
      have : i * l.length ≤ 32 * 2 := Nat.mul_le_mul (by omega) h2
      omega)
    rw [show ((0 : Nat) : Int) = 0 from rfl] at this
    rw [this, List.drop_zero, ← mixF_succ]
    exact rmix_l0 l n hl h2 hn d k (i + 1) (by omega) (by omega)
theorem rmix_f (l : List (List Int)) (n : Nat) (hl : ∀ x ∈ l, x.length = n) (h2 : l.length ≤ 2) (hn : n ≤ 32) : spinetref26_Mix.f 200 l n = some (mixF l n) := rmix_l0 l n hl h2 hn n 200 0 (by omega) (by omega)
end Go.Proofs.YtmcjbejccelagaaDoor
end

