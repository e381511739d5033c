/-
  (state.State).Lose: what a loss makes of a state, walked.
  (One text out of these parts: Kit, Eq, Rgn, RgnI, Flat, Wf, Base, Conc, Sat, LoseP, MixP, StT, Mode, ConcW, LoseW.)
-/
import Derived.Test.YtcibajleknhklaaDoorMsta
import Derived.Deep.Quiet
import Derived.StillTail
import Derived.BigQuiet
import Derived.Below
import Derived.WalkKit
import Derived.WalkLawsBesides
import Derived.Lib.Hide
import Derived.Carry
import Derived.IntWalk
import Derived.Maps.AppendAt
import Derived.OwnWalk
import Derived.KernelRfl
import Derived.Laws.StructEq
import Derived.OpenShut
import Derived.Deep.MidRow
import Derived.Laws.CopyOwn
import Derived.Laws.Tables
import Derived.Laws.ResultCell
import Derived.Laws.Rows
import Derived.Lib.SliceRun
import Derived.Test.YtcibajleknhklaaDoorWWords
import Derived.Test.YtcibajleknhklaaDoorWLast
import Derived.Test.YtcibajleknhklaaDoorWMore
import Derived.Test.YtcibajleknhklaaDoorProg
section
namespace Go
open Go.RowKit
/-- Blocks more, and another count of draws. -/
structure Grown.By where
  objs : Array Obj
  drawn : Nat
instance : Inhabited Grown.By := ⟨⟨#[], 0⟩⟩
/-- 'w' with blocks more, and another count of draws. -/
def World.grew (w : World) (x : Grown.By) : World := { w with heap := w.heap ++ x.objs, drawn := x.drawn }
section
variable (w : World) (x y : Grown.By)
theorem World.grew_block (k : Nat) (h : k < w.heap.size) : (w.grew x).heap[k]? = w.heap[k]? := by
  show (w.heap ++ x.objs)[k]? = _
  rw [Array.getElem?_append_left h]
@[simp, go_sem] theorem World.size_grew : (w.grew x).heap.size = w.heap.size + x.objs.size := by
  show (w.heap ++ x.objs).size = _
  simp
@[go_sem] theorem World.grew_grew : (w.grew x).grew y = w.grew ⟨x.objs ++ y.objs, y.drawn⟩ := by
  unfold World.grew
  simp [Array.append_assoc]
@[go_sem] theorem World.drew_grew : (w.grew x).drew = w.grew ⟨x.objs, x.drawn + 1⟩ := rfl
@[go_sem] theorem World.grew_drew : w.drew.grew x = w.grew x := rfl
@[go_sem] theorem World.grew_drewN (n : Nat) : (w.drewN n).grew x = w.grew x := rfl
@[go_sem] theorem World.drewN_grew (n : Nat) : (w.grew x).drewN n = w.grew ⟨x.objs, x.drawn + n⟩ := rfl
@[go_sem] theorem World.cell?_grew (n i : Nat) (s : Option Nat) (hn : n < w.heap.size) : (w.grew x).cell? ⟨n, i, s⟩ = w.cell? ⟨n, i, s⟩ := by
  unfold World.cell?
  rw [World.grew_block w x n hn]
@[go_sem] theorem World.frozen?_grew (n i : Nat) (s : Option Nat) (hn : n < w.heap.size) : (w.grew x).frozen? ⟨n, i, s⟩ = w.frozen? ⟨n, i, s⟩ := by
  unfold World.frozen?
  rw [World.grew_block w x n hn]
@[go_sem] theorem World.shape?_grew (n : Nat) (hn : n < w.heap.size) : (w.grew x).shape? n = w.shape? n := by
  unfold World.shape?
  rw [World.grew_block w x n hn]
@[go_sem] theorem World.setCell_grew (n i : Nat) (s : Option Nat) (v : Value) (hn : n < w.heap.size) : (w.grew x).setCell ⟨n, i, s⟩ v = (w.setCell ⟨n, i, s⟩ v).grew x := by
  unfold World.setCell World.grew
  congr 1
  apply Array.ext_getElem?
  intro k
  simp only [Array.getElem?_modify, Array.getElem?_append, Array.size_modify]
  by_cases hk : k < w.heap.size
  · simp [hk]
  · simp [hk]
    intro h; omega
@[go_sem] theorem World.heap_grew (k : Nat) (hk : k < w.heap.size) : (w.grew x).heap[k]? = w.heap[k]? := World.grew_block w x k hk
@[simp] theorem World.os_grew : (w.grew x).os = w.os := rfl
@[simp] theorem World.tape_grew : (w.grew x).tape = w.tape := rfl
end
@[go_sem] theorem lt_add_of_lt1 (a b c0 : Nat) (h : a < b) : (a < b + c0) = True := eq_true (by omega)
@[go_sem] theorem le_add_of_lt1 (a b c0 : Nat) (h : a < b) : (a ≤ b + c0) = True := eq_true (by omega)
@[go_sem] theorem ne_add_of_lt1 (a b c0 : Nat) (h : a < b) : (a = b + c0) = False := eq_false (by omega)
@[go_sem] theorem lt_add_of_lt2 (a b c0 c1 : Nat) (h : a < b) : (a < b + c0 + c1) = True := eq_true (by omega)
@[go_sem] theorem le_add_of_lt2 (a b c0 c1 : Nat) (h : a < b) : (a ≤ b + c0 + c1) = True := eq_true (by omega)
@[go_sem] theorem ne_add_of_lt2 (a b c0 c1 : Nat) (h : a < b) : (a = b + c0 + c1) = False := eq_false (by omega)
@[go_sem] theorem lt_add_of_lt3 (a b c0 c1 c2 : Nat) (h : a < b) : (a < b + c0 + c1 + c2) = True := eq_true (by omega)
@[go_sem] theorem le_add_of_lt3 (a b c0 c1 c2 : Nat) (h : a < b) : (a ≤ b + c0 + c1 + c2) = True := eq_true (by omega)
@[go_sem] theorem ne_add_of_lt3 (a b c0 c1 c2 : Nat) (h : a < b) : (a = b + c0 + c1 + c2) = False := eq_false (by omega)
@[go_sem] theorem lt_add_of_lt4 (a b c0 c1 c2 c3 : Nat) (h : a < b) : (a < b + c0 + c1 + c2 + c3) = True := eq_true (by omega)
@[go_sem] theorem le_add_of_lt4 (a b c0 c1 c2 c3 : Nat) (h : a < b) : (a ≤ b + c0 + c1 + c2 + c3) = True := eq_true (by omega)
@[go_sem] theorem ne_add_of_lt4 (a b c0 c1 c2 c3 : Nat) (h : a < b) : (a = b + c0 + c1 + c2 + c3) = False := eq_false (by omega)
@[go_sem] theorem lt_add_of_lt5 (a b c0 c1 c2 c3 c4 : Nat) (h : a < b) : (a < b + c0 + c1 + c2 + c3 + c4) = True := eq_true (by omega)
@[go_sem] theorem le_add_of_lt5 (a b c0 c1 c2 c3 c4 : Nat) (h : a < b) : (a ≤ b + c0 + c1 + c2 + c3 + c4) = True := eq_true (by omega)
@[go_sem] theorem ne_add_of_lt5 (a b c0 c1 c2 c3 c4 : Nat) (h : a < b) : (a = b + c0 + c1 + c2 + c3 + c4) = False := eq_false (by omega)
@[go_sem] theorem le_self2 (a c0 c1 : Nat) : (a ≤ a + c0 + c1) = True := eq_true (by omega)
@[go_sem] theorem le_self3 (a c0 c1 c2 : Nat) : (a ≤ a + c0 + c1 + c2) = True := eq_true (by omega)
@[go_sem] theorem le_self4 (a c0 c1 c2 c3 : Nat) : (a ≤ a + c0 + c1 + c2 + c3) = True := eq_true (by omega)
@[go_sem] theorem le_self5 (a c0 c1 c2 c3 c4 : Nat) : (a ≤ a + c0 + c1 + c2 + c3 + c4) = True := eq_true (by omega)
@[go_sem] theorem le_self6 (a c0 c1 c2 c3 c4 c5 : Nat) : (a ≤ a + c0 + c1 + c2 + c3 + c4 + c5) = True := eq_true (by omega)
@[go_sem] theorem lt_self1 (a c0 : Nat) : (a < a + 1 + c0) = True := eq_true (by omega)
@[go_sem] theorem ne_self1 (a c0 : Nat) : (a = a + 1 + c0) = False := eq_false (by omega)
@[go_sem] theorem lt_self2 (a c0 c1 : Nat) : (a < a + 1 + c0 + c1) = True := eq_true (by omega)
@[go_sem] theorem ne_self2 (a c0 c1 : Nat) : (a = a + 1 + c0 + c1) = False := eq_false (by omega)
@[go_sem] theorem lt_self3 (a c0 c1 c2 : Nat) : (a < a + 1 + c0 + c1 + c2) = True := eq_true (by omega)
@[go_sem] theorem ne_self3 (a c0 c1 c2 : Nat) : (a = a + 1 + c0 + c1 + c2) = False := eq_false (by omega)
@[go_sem] theorem lt_self4 (a c0 c1 c2 c3 : Nat) : (a < a + 1 + c0 + c1 + c2 + c3) = True := eq_true (by omega)
@[go_sem] theorem ne_self4 (a c0 c1 c2 c3 : Nat) : (a = a + 1 + c0 + c1 + c2 + c3) = False := eq_false (by omega)
@[go_sem] theorem lt_self5 (a c0 c1 c2 c3 c4 : Nat) : (a < a + 1 + c0 + c1 + c2 + c3 + c4) = True := eq_true (by omega)
@[go_sem] theorem ne_self5 (a c0 c1 c2 c3 c4 : Nat) : (a = a + 1 + c0 + c1 + c2 + c3 + c4) = False := eq_false (by omega)
theorem below_grew {B : Nat} {a w : World} (h : Below B a w) (hB : B ≤ w.heap.size) (x : Grown.By) : Below B a (w.grew x) :=
  h.trans ⟨rfl, rfl, rfl, by simp, fun k hk => World.grew_block _ _ _ (by omega)⟩
/-- What lies below the size of 'w' is as it was: so w' is w, grown. -/
theorem below_as_grew {w w' : World} (h : Below w.heap.size w w') : ∃ x : Grown.By, w' = w.grew x := by
  refine ⟨⟨w'.heap.extract w.heap.size w'.heap.size, w'.drawn⟩, ?_⟩
  have hh : w'.heap = w.heap ++ w'.heap.extract w.heap.size w'.heap.size := by
    apply Array.ext_getElem?
    intro k
    rw [Array.getElem?_append]
    by_cases hk : k < w.heap.size
    · rw [if_pos hk, h.block k hk]
    · rw [if_neg hk, Array.getElem?_extract]
      by_cases h2 : k < w'.heap.size
      · rw [if_pos (by omega)]
        congr 1; omega
      · rw [if_neg (by omega)]
        simp; omega
  obtain ⟨hp, tp, dr, os, out⟩ := w'
  obtain ⟨a1, a2, a3, a4, a5⟩ := h
  simp only at *
  subst a1 a2 a3
  unfold World.grew
  simp only
  congr 1
section
variable {P : Program} {ops : Array Oper} {md : Region.Mode} {C : World → Prop}
/-- A region all of whose operations are quiet. -/
theorem wp_region_grew_all {id : Nat} {Q : Exit → Act → World → Prop} {a : Act} {w : World} {l : List Oper} (hm : P.follows .mixedOrders = true) (hB : Region.lexB .any l.toArray = true)
    (h : wpQuiet P l.toArray (fun w' => ∃ x, w' = w.grew x) (fun a' => ∀ w', (∃ x, w' = w.grew x) → Q .normal a' w') l a) : (Code.region id l.toArray true).wp P Q a w :=
  wp_region_quiet (C := fun w' => ∃ x, w' = w.grew x) hm hB ⟨⟨#[], w.drawn + 1⟩, by unfold World.grew; simp⟩ (by simpa using h)
theorem wp_region_grew_all2 {id : Nat} {Q : Exit → Act → World → Prop} {a : Act} {w : World} {x0 : Grown.By} {l : List Oper} (hm : P.follows .mixedOrders = true) (hB : Region.lexB .any l.toArray = true)
    (h : wpQuiet P l.toArray (fun w' => ∃ x, w' = w.grew x) (fun a' => ∀ w', (∃ x, w' = w.grew x) → Q .normal a' w') l a) : (Code.region id l.toArray true).wp P Q a (w.grew x0) :=
  wp_region_quiet (C := fun w' => ∃ x, w' = w.grew x) hm hB ⟨⟨x0.objs, x0.drawn + 1⟩, rfl⟩ (by simpa using h)
/-- A contract that makes memory, met in a grown world. -/
theorem Calls.grew_of {f : FuncId} {args : Array Value} {w : World} {x : Grown.By} {v : Value}
    (h : Calls P f args (w.grew x) fun e w' => e = .returned v ∧ Below (w.grew x).heap.size (w.grew x) w') : Calls P f args (w.grew x) fun e w'' => e = .returned v ∧ ∃ y, w'' = w.grew y :=
  h.mono fun _ _ ⟨he, hb⟩ => ⟨he, by
    obtain ⟨y, hy⟩ := below_as_grew hb
    exact ⟨_, hy.trans (World.grew_grew w x y)⟩⟩
end
theorem ret_int {k : IntKind} {a b : Int} (h : a = b) : Ending.returned (.int k a) = .returned (.int k b) := by rw [h]
theorem ret_bool {a b : Bool} (h : a = b) : Ending.returned (.bool a) = .returned (.bool b) := by rw [h]
def TabW (g n : Nat) (k : IntKind) (zs : List Int) (w : World) : Prop := g < w.heap.size ∧ ∀ j : Nat, j < n → w.cell? ⟨g, j, none⟩ = some (.int k (zs.getD j 0))
theorem TabW.below {g n : Nat} {k : IntKind} {zs : List Int} {w w' : World} (h : TabW g n k zs w) (hb : Below w.heap.size w w') : TabW g n k zs w' :=
  ⟨Nat.lt_of_lt_of_le h.1 hb.size, fun j hj => (hb.cell (p := ⟨g, j, none⟩) h.1).trans (h.2 j hj)⟩
theorem ownsRow_below {base : Nat} {e : TypeId} {size n : Nat} {v : Value} {xs : List Value} {w w' : World} (hown : w.ownsRow base e size v n xs) (hb : Below w.heap.size w w') : w'.ownsRow base e size v n xs := by
  obtain ⟨h1, h2⟩ := hown
  refine ⟨h1, ?_⟩
  rcases h2 with h2 | ⟨g, cap, cur, hv, hg, hh, r⟩
  · exact .inl h2
  · exact .inr ⟨g, cap, cur, hv, hg, (hb.block g (Array.getElem?_eq_some_iff.1 hh).1).trans hh, r⟩
theorem max2_i (k k' : IntKind) (x y : Int) : Builtin.max2 (.int k x) (.int k' y) = pure (.int k (max x y)) := by
  simp only [Builtin.max2]
  congr 2
  split <;> omega
theorem min2_i (k k' : IntKind) (x y : Int) : Builtin.min2 (.int k x) (.int k' y) = pure (.int k (min x y)) := by
  simp only [Builtin.min2]
  congr 2
  split <;> omega
theorem max_2 (ats : Array TypeId) (ty : TypeId) (a b : Value) : Builtin.max_ ats ty #[a, b] = (Builtin.max2 a b >>= fun s => pure s) := by simp only [Builtin.max_, List.foldlM_cons, List.foldlM_nil]
theorem min_2 (ats : Array TypeId) (ty : TypeId) (a b : Value) : Builtin.min_ ats ty #[a, b] = (Builtin.min2 a b >>= fun s => pure s) := by simp only [Builtin.min_, List.foldlM_cons, List.foldlM_nil]
theorem max_3 (ats : Array TypeId) (ty : TypeId) (a b c : Value) : Builtin.max_ ats ty #[a, b, c] = (Builtin.max2 a b >>= fun s => Builtin.max2 s c >>= fun s => pure s) := by simp only [Builtin.max_, List.foldlM_cons, List.foldlM_nil]
theorem min_3 (ats : Array TypeId) (ty : TypeId) (a b c : Value) : Builtin.min_ ats ty #[a, b, c] = (Builtin.min2 a b >>= fun s => Builtin.min2 s c >>= fun s => pure s) := by simp only [Builtin.min_, List.foldlM_cons, List.foldlM_nil]
attribute [go_sem] max2_i min2_i max_2 min_2 max_3 min_3
theorem maxLen_le {n : Nat} (h : n ≤ 4294967295) : n ≤ maxLen := by unfold maxLen; omega
end Go
end

section
namespace Go
set_option linter.unusedSimpArgs false
inductive Leaf where
  | int (k : IntKind)
  | bool
  deriving DecidableEq
def Leaf.fits : Leaf → Value → Bool
  | .int k, .int k' _ => decide (k = k')
  | .bool, .bool _ => true
  | _, _ => false
/-- Two cells alike. -/
def cellEq : Value → Value → Bool
  | .int _ a, .int _ b => a == b
  | .bool a, .bool b => a == b
  | _, _ => false
def cellsEq : List Value → List Value → Bool
  | [], [] => true
  | x :: xs, y :: ys => cellEq x y && cellsEq xs ys
  | _, _ => false
def fitAll : List Leaf → List Value → Bool
  | [], [] => true
  | l :: ls, x :: xs => l.fits x && fitAll ls xs
  | _, _ => false
/-- The fields' offsets are the sums of what stands ahead; none is blank. -/
def offsOk : List Field → List (List Leaf) → Nat → Bool
  | [], [], _ => true
  | f :: fs, l :: ls, o => f.name != "_" && f.offset == o && offsOk fs ls (o + l.length)
  | _, _, _ => false
/-- The cells of a type of whole numbers and bools. -/
def layout (P : Program) : Nat → TypeId → Option (List Leaf)
  | 0, _ => none
  | d + 1, t =>
    match P.underlying t with
    | some .bool => if (P.info? t).isSome && P.cellsOf t == 1 then some [.bool] else none
    | some (.int k) => if (P.info? t).isSome && P.cellsOf t == 1 then some [.int k] else none
    | some (.array n e) => (layout P d e).bind fun l => if (P.info? t).isSome && P.cellsOf t == (List.replicate n l).flatten.length then some (List.replicate n l).flatten else none
    | some (.struct fs) => (fs.toList.mapM fun f => layout P d f.type).bind fun ls => if (P.info? t).isSome && P.cellsOf t == ls.flatten.length && offsOk fs.toList ls 0 && !P.stoodInHeld t then some ls.flatten else none
    | _ => none
def isAggB (P : Program) (t : TypeId) : Bool := match P.underlying t with | some (.struct _) | some (.array _ _) => true | _ => false
def asVal (P : Program) (t : TypeId) (cs : List Value) : Value := if isAggB P t then .agg cs.toArray else cs.headD undef
theorem fitAll_length : ∀ {ls : List Leaf} {xs : List Value}, fitAll ls xs = true → xs.length = ls.length
  | [], [], _ => rfl
  | _ :: ls, _ :: xs, h => by
    simp only [fitAll, Bool.and_eq_true] at h
    simp [fitAll_length h.2]
theorem fits_bool {v : Value} (h : Leaf.bool.fits v = true) : ∃ b, v = .bool b := by
  cases v with
  | bool b => exact ⟨b, rfl⟩
  | _ => exact absurd h (by simp [Leaf.fits])
theorem fits_int {k : IntKind} {v : Value} (h : (Leaf.int k).fits v = true) : ∃ n, v = .int k n := by
  cases v with
  | int k' n =>
    have : k = k' := by simpa [Leaf.fits] using h
    exact ⟨n, by rw [this]⟩
  | _ => exact absurd h (by simp [Leaf.fits])
theorem fit_one {l : Leaf} {xs : List Value} (h : fitAll [l] xs = true) : ∃ x, xs = [x] ∧ l.fits x = true := by
  cases xs with
  | nil => simp [fitAll] at h
  | cons x xs =>
    cases xs with
    | nil => exact ⟨x, rfl, by simpa [fitAll] using h⟩
    | cons y ys => simp [fitAll] at h
theorem fitAll_append : ∀ {ls ms : List Leaf} {xs : List Value}, fitAll (ls ++ ms) xs = true → fitAll ls (xs.take ls.length) = true ∧ fitAll ms (xs.drop ls.length) = true
  | [], ms, xs, h => by simpa [fitAll] using h
  | l :: ls, ms, x :: xs, h => by
    simp only [List.cons_append, fitAll, Bool.and_eq_true] at h
    obtain ⟨h1, h2⟩ := fitAll_append h.2
    exact ⟨by simp [fitAll, h.1, h1], by simpa using h2⟩
theorem cellsEq_append : ∀ (xs ys us vs : List Value), xs.length = ys.length → cellsEq (xs ++ us) (ys ++ vs) = (cellsEq xs ys && cellsEq us vs)
  | [], [], us, vs, _ => by simp [cellsEq]
  | x :: xs, y :: ys, us, vs, h => by
    simp only [List.cons_append, cellsEq]
    rw [cellsEq_append xs ys us vs (by simpa using h), Bool.and_assoc]
section
variable {P : Program} (w : World)
theorem layout_info {d : Nat} {t : TypeId} {ls : List Leaf} (h : layout P d t = some ls) : ∃ i, P.info? t = some i ∧ i.size = ls.length := by
  cases d with
  | zero => simp [layout] at h
  | succ d =>
    have key : ∀ n : Nat, ((P.info? t).isSome && P.cellsOf t == n) = true → ∃ i, P.info? t = some i ∧ i.size = n := by
      intro n hn
      simp only [Bool.and_eq_true, beq_iff_eq] at hn
      obtain ⟨i, hi⟩ := Option.isSome_iff_exists.1 hn.1
      exact ⟨i, hi, by rw [← hn.2]; simp [Program.cellsOf, hi]⟩
    simp only [layout] at h
    split at h
    · split at h
      · cases h; exact key 1 (by assumption)
      · cases h
    · split at h
      · cases h; exact key 1 (by assumption)
      · cases h
    · simp only [Option.bind_eq_some_iff] at h
      obtain ⟨l, _, h⟩ := h
      split at h
      · cases h; exact key _ (by assumption)
      · cases h
    · simp only [Option.bind_eq_some_iff] at h
      obtain ⟨l, _, h⟩ := h
      split at h
      · rename_i hc
        cases h
        simp only [Bool.and_eq_true] at hc
        exact key _ (by simp only [Bool.and_eq_true]; exact hc.1.1)
      · cases h
    · cases h
theorem run_part_flat {d : Nat} {e : TypeId} {ls : List Leaf} (h : layout P d e = some ls) (cs : Array Value) (off : Nat) (hf : fitAll ls ((cs.toList.drop off).take ls.length) = true) :
    (part e cs off).run P w = .ok (asVal P e ((cs.toList.drop off).take ls.length)) w := by
  obtain ⟨i, hi, hs⟩ := layout_info h
  have hlen := fitAll_length hf
  cases d with
  | zero => simp [layout] at h
  | succ d =>
    have hex : (cs.extract off (off + ls.length)).toList = (cs.toList.drop off).take ls.length := by simp [List.drop_take]
    simp only [layout] at h
    unfold part asVal isAggB
    have one : ∀ (l : Leaf), ls = [l] → ∃ v, cs[off]? = some v ∧ (cs.toList.drop off).take ls.length = [v] := by
      intro l hl
      subst hl
      cases hd : cs.toList.drop off with
      | nil => rw [hd] at hlen; simp at hlen
      | cons v r =>
        refine ⟨v, ?_, by simp⟩
        have : (cs.toList.drop off)[0]? = some v := by rw [hd]; rfl
        simpa using this
    split at h
    · rename_i hu
      split at h
      · cases h
        obtain ⟨v, hv, he⟩ := one _ rfl
        simp only [Sem.run_bind, isAgg, run_underlying hu, Result.andThen_ok, Sem.run_pure, hu, Bool.false_eq_true, if_false, hv]
        rw [he]; rfl
      · cases h
    · rename_i hu
      split at h
      · cases h
        obtain ⟨v, hv, he⟩ := one _ rfl
        simp only [Sem.run_bind, isAgg, run_underlying hu, Result.andThen_ok, Sem.run_pure, hu, Bool.false_eq_true, if_false, hv]
        rw [he]; rfl
      · cases h
    · rename_i hu
      simp only [Sem.run_bind, isAgg, run_underlying hu, Result.andThen_ok, Sem.run_pure, hu, if_true, sizeOf, typeInfo, hi]
      simp only [Sem.run_bind, run_program, Result.andThen_ok, hi, Sem.run_pure, hs]
      rw [← hex]
    · rename_i hu
      simp only [Sem.run_bind, isAgg, run_underlying hu, Result.andThen_ok, Sem.run_pure, hu, if_true, sizeOf, typeInfo, hi]
      simp only [Sem.run_bind, run_program, Result.andThen_ok, hi, Sem.run_pure, hs]
      rw [← hex]
    · cases h
/-- What is to be shown of a type, at a depth. -/
def EqFlat (P : Program) (d : Nat) (t : TypeId) (ls : List Leaf) : Prop :=
  ∀ D, d ≤ D → ∀ (w : World) (xs ys : List Value), fitAll ls xs = true → fitAll ls ys = true → (Op.equalIn D t (asVal P t xs) (asVal P t ys)).run P w = .ok (cellsEq xs ys) w
theorem eqItems_flat {d D : Nat} {e : TypeId} {l : List Leaf} (hl : layout P d e = some l) (IH : EqFlat P d e l) (hD : d ≤ D) (hc : P.cellsOf e = l.length) (xs ys : Array Value) :
    ∀ (m k : Nat), fitAll (List.replicate m l).flatten (xs.toList.drop (k * l.length)) = true → fitAll (List.replicate m l).flatten (ys.toList.drop (k * l.length)) = true →
      (Op.eqItems D e (P.cellsOf e) xs ys (List.range' k m)).run P w = .ok (cellsEq (xs.toList.drop (k * l.length)) (ys.toList.drop (k * l.length))) w
  | 0, k, hx, hy => by
    have h1 : xs.toList.drop (k * l.length) = [] := List.length_eq_zero_iff.1 (by simpa using fitAll_length hx)
    have h2 : ys.toList.drop (k * l.length) = [] := List.length_eq_zero_iff.1 (by simpa using fitAll_length hy)
    rw [h1, h2]
    simp [Op.eqItems, cellsEq]
  | m + 1, k, hx, hy => by
    rw [List.replicate_succ, List.flatten_cons] at hx hy
    obtain ⟨x1, x2⟩ := fitAll_append hx
    obtain ⟨y1, y2⟩ := fitAll_append hy
    have hk : k * l.length + l.length = (k + 1) * l.length := by rw [Nat.add_mul]; omega
    rw [List.drop_drop, hk] at x2 y2
    have ih := eqItems_flat hl IH hD hc xs ys m (k + 1) x2 y2
    have ex : xs.toList.drop (k * l.length) = (xs.toList.drop (k * l.length)).take l.length ++ xs.toList.drop ((k + 1) * l.length) := by
      rw [← hk, ← List.drop_drop, List.take_append_drop]
    have ey : ys.toList.drop (k * l.length) = (ys.toList.drop (k * l.length)).take l.length ++ ys.toList.drop ((k + 1) * l.length) := by
      rw [← hk, ← List.drop_drop, List.take_append_drop]
    rw [ex, ey, cellsEq_append _ _ _ _ ((fitAll_length x1).trans (fitAll_length y1).symm)]
    simp only [List.range'_succ, Op.eqItems, Sem.run_bind]
    rw [hc] at ih ⊢
    rw [run_part_flat w hl xs (k * l.length) x1, Result.andThen_ok, run_part_flat w hl ys (k * l.length) y1, Result.andThen_ok, IH D hD w _ _ x1 y1, Result.andThen_ok]
    cases cellsEq ((xs.toList.drop (k * l.length)).take l.length) ((ys.toList.drop (k * l.length)).take l.length)
    · simp
    · simp only [Bool.not_true, Bool.false_eq_true, if_false, Bool.true_and]
      exact ih
theorem eqFields_flat {d D : Nat} (hD : d ≤ D) (xs ys : Array Value) :
    ∀ (fs : List Field) (ls : List (List Leaf)) (o : Nat), fs.mapM (fun f => layout P d f.type) = some ls → offsOk fs ls o = true → (∀ f l, f ∈ fs → layout P d f.type = some l → EqFlat P d f.type l) →
      fitAll ls.flatten (xs.toList.drop o) = true → fitAll ls.flatten (ys.toList.drop o) = true →
      (Op.eqFields D xs ys fs).run P w = .ok (cellsEq (xs.toList.drop o) (ys.toList.drop o)) w
  | [], ls, o, hm, _, _, hx, hy => by
    simp at hm
    subst hm
    have h1 : xs.toList.drop o = [] := List.length_eq_zero_iff.1 (by simpa using fitAll_length hx)
    have h2 : ys.toList.drop o = [] := List.length_eq_zero_iff.1 (by simpa using fitAll_length hy)
    rw [h1, h2]
    simp [Op.eqFields, cellsEq]
  | f :: fs, ls, o, hm, ho, IH, hx, hy => by
    rw [List.mapM_cons] at hm
    simp only [bind, Option.bind_eq_some_iff, pure, Option.some.injEq] at hm
    obtain ⟨l, hl, ls', hls, rfl⟩ := hm
    simp only [offsOk, Bool.and_eq_true, bne_iff_ne, beq_iff_eq] at ho
    obtain ⟨⟨hn, hoff⟩, ho⟩ := ho
    rw [List.flatten_cons] at hx hy
    obtain ⟨x1, x2⟩ := fitAll_append hx
    obtain ⟨y1, y2⟩ := fitAll_append hy
    rw [List.drop_drop] at x2 y2
    have ih := eqFields_flat hD xs ys fs ls' (o + l.length) hls ho (fun g l' hg => IH g l' (by simp [hg])) x2 y2
    have ex : xs.toList.drop o = (xs.toList.drop o).take l.length ++ xs.toList.drop (o + l.length) := by rw [← List.drop_drop, List.take_append_drop]
    have ey : ys.toList.drop o = (ys.toList.drop o).take l.length ++ ys.toList.drop (o + l.length) := by rw [← List.drop_drop, List.take_append_drop]
    rw [ex, ey, cellsEq_append _ _ _ _ ((fitAll_length x1).trans (fitAll_length y1).symm)]
    simp only [Op.eqFields, hn, ne_eq, not_false_eq_true, if_true, Sem.run_bind]
    rw [hoff, run_part_flat w hl xs o x1, Result.andThen_ok, run_part_flat w hl ys o y1, Result.andThen_ok, IH f l (by simp) hl D hD w _ _ x1 y1, Result.andThen_ok]
    cases cellsEq ((xs.toList.drop o).take l.length) ((ys.toList.drop o).take l.length)
    · simp
    · simp only [Bool.not_true, Bool.false_eq_true, if_false, Bool.true_and]
      exact ih
end
theorem run_equalIn_flat {P : Program} : ∀ (d : Nat) (t : TypeId) (ls : List Leaf), layout P d t = some ls → EqFlat P d t ls
  | 0, t, ls, h => by simp [layout] at h
  | d + 1, t, ls, h => by
    intro D hD w xs ys hx hy
    obtain ⟨D, rfl⟩ : ∃ E, D = E + 1 := ⟨D - 1, by omega⟩
    have hD' : d ≤ D := by omega
    simp only [layout] at h
    unfold asVal isAggB
    split at h
    · rename_i hu
      split at h
      · cases h
        obtain ⟨x, rfl, fx⟩ := fit_one hx
        obtain ⟨y, rfl, fy⟩ := fit_one hy
        · obtain ⟨a, rfl⟩ := fits_bool fx
          obtain ⟨b, rfl⟩ := fits_bool fy
          simp [hu, Op.equalIn, run_underlying hu, cellsEq, cellEq]
      · cases h
    · rename_i hu
      split at h
      · cases h
        obtain ⟨x, rfl, fx⟩ := fit_one hx
        obtain ⟨y, rfl, fy⟩ := fit_one hy
        · obtain ⟨a, rfl⟩ := fits_int fx
          obtain ⟨b, rfl⟩ := fits_int fy
          simp [hu, Op.equalIn, run_underlying hu, cellsEq, cellEq]
      · cases h
    · rename_i n e hu
      simp only [Option.bind_eq_some_iff] at h
      obtain ⟨l, hl, h⟩ := h
      split at h
      · cases h
        obtain ⟨i, hi, hs⟩ := layout_info hl
        simp only [hu, if_true]
        rw [run_equalIn_array w D _ _ hu hi, List.range_eq_range']
        have := eqItems_flat w hl (run_equalIn_flat d e l hl) hD' (by simp [Program.cellsOf, hi, hs]) xs.toArray ys.toArray n 0 (by simpa using hx) (by simpa using hy)
        simpa using this
      · cases h
    · rename_i fs hu
      simp only [Option.bind_eq_some_iff] at h
      obtain ⟨l, hl, h⟩ := h
      split at h
      · rename_i hc
        cases h
        simp only [Bool.and_eq_true, Bool.not_eq_true'] at hc
        have hfs : P.fieldsOf t = fs := by simp [Program.fieldsOf, hu]
        simp only [hu, if_true]
        rw [run_equalIn_struct w D t _ _ (by rw [hfs]; exact hu) hc.2, hfs]
        have := eqFields_flat w hD' xs.toArray ys.toArray fs.toList l 0 hl hc.1.2 (fun f l' _ h' => run_equalIn_flat d f.type l' h') (by simpa using hx) (by simpa using hy)
        simpa using this
      · cases h
    · cases h
attribute [go_sem] cellsEq cellEq
/-- '==' of two values of such a type, as the walk meets it. -/
theorem eq_flat {P : Program} (t : TypeId) (d : Nat) (ls : List Leaf) (hl : layout P d t = some ls) (hd : d ≤ 10000) (ha : isAggB P t = true) (xs ys : List Value) (hx : fitAll ls xs = true) (hy : fitAll ls ys = true) (w : World) :
    (Op.equalIn 10000 t (.agg xs.toArray) (.agg ys.toArray)).run P w = .ok (cellsEq xs ys) w := by
  have h := run_equalIn_flat d t ls hl 10000 hd w xs ys hx hy
  unfold asVal at h
  simpa [ha] using h
end Go
end

section
namespace Go
open Go.RowKit
theorem bcell {W w1 : World} (hb : Below W.heap.size W w1) : (∀ b o, b < W.heap.size → w1.cell? ⟨b, o, none⟩ = W.cell? ⟨b, o, none⟩) ∧ (∀ b o, b < W.heap.size → w1.frozen? ⟨b, o, none⟩ = W.frozen? ⟨b, o, none⟩) :=
  ⟨fun b o h => hb.cell (p := ⟨b, o, none⟩) h, fun b o h => hb.frozen (p := ⟨b, o, none⟩) h⟩
theorem alloc_at (w : World) (o : Obj) : (w.alloc o).heap[w.heap.size]? = some o := by show (w.heap.push o)[w.heap.size]? = _; simp
/-- U: what stands in each operation's slot. -/
def fillPuts : List Oper → (Nat → Value) → Nat → Act → Act
  | [], _, _, a => a
  | o :: l, U, i, a => fillPuts l U (i + 1) (a.put o.dst (U i))
def updU (U : Nat → Value) (i : Nat) (v : Value) : Nat → Value := fun j => if j = i then v else U j
def maskU (S : List Nat) (U : Nat → Value) : Nat → Value := fun j => if S.contains j then U j else undef
def predsOf (o : Oper) : List Nat := o.after.toList.filterMap fun e => if Region.binds .any e then some e.on else none
def slotOf (a : Act) (dst : Option Tmp) : Value := match dst with | some d => a.tmps.getD d undef | none => undef
abbrev RelU := (Nat → Value) → World → Prop
def HypsU (Rs : List RelU) (U : Nat → Value) (w : World) : List Nat → Prop
  | [] => True
  | p :: ps => (Rs.getD p fun _ _ => True) U w ∧ HypsU Rs U w ps
def AllU (U : Nat → Value) (w : World) : List RelU → Prop
  | [] => True
  | r :: rs => r U w ∧ AllU U w rs
def InvPost (T : World → World → Prop) (d : List Deferred) (w : World) (dst : Option Tmp) (G : Value → World → Prop) (e : Exit) (a' : Act) (w' : World) : Prop :=
  e = .normal ∧ a'.defers = d ∧ T w w' ∧ G (slotOf a' dst) w'
/-- The block that a value points into. -/
def blkOf : Value → Option Nat
  | .pointer (some a) => some a.block
  | .slice (some a) _ _ => some a.block
  | .map (some m) => some m
  | _ => none
/-- A value that points into a block made between two worlds. -/
def FreshV (v : Value) (w w' : World) : Prop := ∃ p, blkOf v = some p ∧ w.heap.size ≤ p ∧ p < w'.heap.size
/-- The fresh values differ. -/
def ApartF (F : List Nat) (U : Nat → Value) : Prop := ∀ i j, F.contains i = true → F.contains j = true → i ≠ j → blkOf (U i) ≠ blkOf (U j)
section
variable {P : Program} {ops : Array Oper}
/-- The walk: for each operation of the head what holds of its value. -/
def wpInv (P : Program) (ops : Array Oper) (F : List Nat) (C : World → Prop) (T : World → World → Prop) (hd : List Oper) (a0 : Act) (fin : (Nat → Value) → World → Prop) : Nat → List RelU → List Oper → Prop
  | _, Rs, [] => ∀ U w, C w → AllU U w Rs → ApartF F U → fin U w
  | i, Rs, o :: rest => ∃ r : RelU, (∀ U w, r U w = r (maskU (i :: predsOf o) U) w) ∧ (∀ U w w', C w → T w w' → r U w → r U w') ∧
      (∀ U w, C w → HypsU Rs U w (predsOf o) → wpList P ops (InvPost T a0.defers w o.dst fun v w' => r (updU U i v) w' ∧ (F.contains i = true → FreshV v w w')) [o] (fillPuts hd U 0 a0) w) ∧
      wpInv P ops F C T hd a0 fin (i + 1) (Rs ++ [r]) rest
theorem fillPuts_defers : ∀ (l : List Oper) (U : Nat → Value) (i : Nat) (a : Act), (fillPuts l U i a).defers = a.defers
  | [], _, _, _ => rfl
  | o :: l, U, i, a => by
    rw [fillPuts, fillPuts_defers l]
    unfold Act.put; split <;> rfl
theorem Act.put_put (a : Act) (d : Option Tmp) (u v : Value) : (a.put d u).put d v = a.put d v := by
  unfold Act.put
  cases d with
  | none => rfl
  | some d => simp
/-- No slot is written twice. -/
def distinctDst : List Oper → Bool
  | [] => true
  | o :: l => (match o.dst with | some d => l.all (fun p => p.dst != some d) | none => true) && distinctDst l
theorem put_fill_comm {d : Option Tmp} {v : Value} : ∀ (l : List Oper) (U : Nat → Value) (i : Nat) (a : Act), (∀ t, d = some t → l.all (fun p => p.dst != some t) = true) →
    fillPuts l U i (a.put d v) = (fillPuts l U i a).put d v
  | [], _, _, _, _ => rfl
  | o :: l, U, i, a, h => by
    simp only [fillPuts]
    rw [← put_fill_comm l U (i + 1) (a.put o.dst (U i)) (fun t ht => by
      have := h t ht
      simp only [List.all_cons, Bool.and_eq_true] at this
      exact this.2)]
    congr 1
    refine Act.put_comm a v (U i) ?_
    intro t ht ht2
    have := h t ht
    simp only [List.all_cons, Bool.and_eq_true, bne_iff_ne, ne_eq] at this
    exact this.1 ht2
theorem fillPuts_upd_lt : ∀ (l : List Oper) (U : Nat → Value) (k i : Nat) (v : Value) (a : Act), k < i → fillPuts l (updU U k v) i a = fillPuts l U i a
  | [], _, _, _, _, _, _ => rfl
  | o :: l, U, k, i, v, a, h => by
    simp only [fillPuts]
    rw [fillPuts_upd_lt l U k (i + 1) v _ (by omega)]
    have : updU U k v i = U i := by unfold updU; rw [if_neg (by omega)]
    rw [this]
theorem fillPuts_put : ∀ (l : List Oper) (U : Nat → Value) (i k : Nat) (o : Oper) (v : Value) (a : Act), distinctDst l = true → l[k]? = some o →
    (fillPuts l U i a).put o.dst v = fillPuts l (updU U (i + k) v) i a
  | [], _, _, _, _, _, _, _, h => by simp at h
  | p :: l, U, i, 0, o, v, a, hd, h => by
    obtain rfl : p = o := by simpa using h
    simp only [distinctDst, Bool.and_eq_true] at hd
    simp only [fillPuts, Nat.add_zero]
    rw [fillPuts_upd_lt l U i (i + 1) v _ (by omega), ← put_fill_comm l U (i + 1) _ (fun t ht => by have := hd.1; rw [ht] at this; simpa using this), Act.put_put]
    have : updU U i v i = v := by unfold updU; rw [if_pos rfl]
    rw [this]
  | p :: l, U, i, k + 1, o, v, a, hd, h => by
    simp only [distinctDst, Bool.and_eq_true] at hd
    simp only [fillPuts]
    rw [fillPuts_put l U (i + 1) k o v _ hd.2 (by simpa using h), show i + 1 + k = i + (k + 1) by omega]
    have : updU U (i + (k + 1)) v i = U i := by unfold updU; rw [if_neg (by omega)]
    rw [this]
theorem put_slot (a : Act) (d : Option Tmp) (v : Value) : a.put d (slotOf (a.put d v) d) = a.put d v := by
  cases d with
  | none => rfl
  | some d =>
    simp only [Act.put, slotOf]
    by_cases h : d < a.tmps.size
    · simp [h]
    · rw [Array.setIfInBounds_eq_of_size_le (Nat.le_of_not_lt h), Array.setIfInBounds_eq_of_size_le (Nat.le_of_not_lt h)]
theorem updU_eq (U : Nat → Value) (i : Nat) (v : Value) : updU U i v i = v := by unfold updU; rw [if_pos rfl]
theorem maskU_upd {S : List Nat} {U : Nat → Value} {i : Nat} {v : Value} (h : S.contains i = false) : maskU S (updU U i v) = maskU S U := by
  funext j
  unfold maskU updU
  by_cases e : j = i
  · subst e; rw [h]; rfl
  · rw [if_neg e]
theorem wpOp_of_list_inv {i : Nat} {o : Oper} {K : Act → World → Prop} {Q : Exit → Act → World → Prop} {a : Act} {w : World} {T : World → World → Prop} {d : List Deferred} {G : Value → World → Prop}
    (hi : ops[i]? = some o) (hd : a.defers = d)
    (hK : ∀ v w', T w w' → G (slotOf (a.put o.dst v) o.dst) w' → K (a.put o.dst v) w')
    (h : wpList P ops (InvPost T d w o.dst G) [o] a w) : wpOp P ops Q i K a w := by
  have hQ : ∀ v w', InvPost T d w o.dst G .normal (a.put o.dst v) w' → K (a.put o.dst v) w' := fun v w' h => hK v w' h.2.2.1 h.2.2.2
  have hF : ¬ LetsOut (InvPost T d w o.dst G) := by
    rintro ⟨a1, w1, h1⟩
    exact absurd h1.1 (by simp)
  unfold wpOp
  simp only [hi]
  unfold wpList at h
  split
  · rename_i hw
    rw [if_pos hw] at h
    rcases h with h | ⟨_, h⟩
    · refine .inl ?_
      unfold Oper.wp at *
      generalize (execOp a.eval o).run P w = r at *
      cases r with
      | ok n w' =>
        cases n <;> simp only [Oper.upon] at h ⊢
        case value u => exact hQ _ _ h
        case skip => exact hQ _ _ h
        case defer c =>
          have h2 : (({ a with defers := c :: a.defers } : Act).put o.dst undef).defers = d := h.2.1
          have h3 : (({ a with defers := c :: a.defers } : Act).put o.dst undef).defers = c :: a.defers := by unfold Act.put; split <;> rfl
          rw [h3, ← hd] at h2
          exact absurd (congrArg List.length h2) (by simp)
        case enter f args =>
          refine Calls.mono h fun e w'' he => ?_
          cases e with
          | returned u => exact hQ _ _ he
          | panicked c => exact absurd he.1 (by simp)
          | outgrown => exact absurd he hF
        case row row args => exact Rows.mono h fun u w'' he => hQ _ _ he
      | halt x w' =>
        cases x <;> simp only [Oper.upon] at h ⊢
        case panic u => exact absurd h.1 (by simp)
    · exact absurd h hF
  · rename_i hw
    rw [if_neg hw] at h
    exact hQ _ _ h
theorem wpList_post {o : Oper} {a : Act} {w : World} {T : World → World → Prop} {d : List Deferred} {dst : Option Tmp} {G G' : Value → World → Prop}
    (hG : ∀ a' w', InvPost T d w dst G .normal a' w' → InvPost T d w dst G' .normal a' w') (h : wpList P ops (InvPost T d w dst G) [o] a w) : wpList P ops (InvPost T d w dst G') [o] a w := by
  have hF : ¬ LetsOut (InvPost T d w dst G) := by
    rintro ⟨a1, w1, h1⟩
    exact absurd h1.1 (by simp)
  unfold wpList at h ⊢
  split
  · rename_i hw
    rw [if_pos hw] at h
    rcases h with h | ⟨_, h⟩
    · refine .inl ?_
      unfold Oper.wp at *
      generalize (execOp a.eval o).run P w = r at *
      cases r with
      | ok n w' =>
        cases n <;> simp only [Oper.upon] at h ⊢
        case value u => exact hG _ _ h
        case skip => exact hG _ _ h
        case defer c => exact hG _ _ h
        case enter f args =>
          refine Calls.mono h fun e w'' he => ?_
          cases e with
          | returned u => exact hG _ _ he
          | panicked c => exact absurd he.1 (by simp)
          | outgrown => exact absurd he hF
        case row row args => exact Rows.mono h fun u w'' he => hG _ _ he
      | halt x w' =>
        cases x <;> simp only [Oper.upon] at h ⊢
        case panic u => exact absurd h.1 (by simp)
    · exact absurd h hF
  · rename_i hw
    rw [if_neg hw] at h
    exact hG _ _ h
/-- Every edge leads back. -/
def backB (ops : Array Oper) : Bool := (List.range ops.size).all fun i => ((ops[i]?).map fun o => o.after.all fun e => !Region.binds .any e || decide (e.on < i)).getD true
def seqAfter (ops : Array Oper) (n : Nat) : Bool := Region.seqB .any ops (ops.size - n) n ((List.range ops.size).map fun i => decide (i < n)).toArray
def invB (ops : Array Oper) (n : Nat) : Bool :=
  decide (n < ops.size) && Region.sinkB .any ops n && Region.chainB .any ops n && backB ops && distinctDst (ops.toList.take n) && seqAfter ops n
theorem backB_spec (h : backB ops = true) {i : Nat} {o : Oper} (ho : ops[i]? = some o) : ∀ e ∈ o.after, Region.binds .any e = true → e.on < i := by
  intro e he hb
  have hlt : i < ops.size := (Array.getElem?_eq_some_iff.1 ho).1
  have h1 := List.all_eq_true.1 h i (List.mem_range.2 hlt)
  rw [ho] at h1
  simp only [Option.map_some, Option.getD_some, Array.all_eq_true_iff_forall_mem, Bool.or_eq_true, Bool.not_eq_true', decide_eq_true_eq] at h1
  rcases h1 e he with h2 | h2
  · rw [hb] at h2; cases h2
  · exact h2
theorem of_mem_predsOf {o : Oper} {p : Nat} (h : p ∈ predsOf o) : ∃ e ∈ o.after, Region.binds .any e = true ∧ e.on = p := by
  unfold predsOf at h
  rw [List.mem_filterMap] at h
  obtain ⟨e, he, h2⟩ := h
  split at h2
  · rename_i hb
    exact ⟨e, by simpa using he, hb, by simpa using h2⟩
  · cases h2
/-- What is known of a head: each operation's relation, that it looks at no other's value, that it stays, and its step. -/
structure HeadOK (P : Program) (ops : Array Oper) (F : List Nat) (C : World → Prop) (T : World → World → Prop) (hd : List Oper) (a0 : Act) (Rs : List RelU) : Prop where
  len : Rs.length = hd.length
  loc : ∀ j o, hd[j]? = some o → ∀ U w, (Rs.getD j fun _ _ => True) U w = (Rs.getD j fun _ _ => True) (maskU (j :: predsOf o) U) w
  stay : ∀ j U w w', C w → T w w' → (Rs.getD j fun _ _ => True) U w → (Rs.getD j fun _ _ => True) U w'
  step : ∀ j o, hd[j]? = some o → ∀ U w, C w → HypsU Rs U w (predsOf o) → wpList P ops (InvPost T a0.defers w o.dst fun v w' => (Rs.getD j fun _ _ => True) (updU U j v) w' ∧ (F.contains j = true → FreshV v w w')) [o] (fillPuts hd U 0 a0) w
theorem hypsU_append {Rs : List RelU} {more : List RelU} {U : Nat → Value} {w : World} : ∀ (ps : List Nat), (∀ p ∈ ps, p < Rs.length) → HypsU (Rs ++ more) U w ps → HypsU Rs U w ps
  | [], _, _ => trivial
  | p :: ps, hl, h => by
    refine ⟨?_, hypsU_append ps (fun q hq => hl q (by simp [hq])) h.2⟩
    have := h.1
    rwa [List.getD_eq_getElem?_getD, List.getElem?_append_left (hl p (by simp)), ← List.getD_eq_getElem?_getD] at this
theorem wpInv_ok {F : List Nat} {C : World → Prop} {T : World → World → Prop} {hd : List Oper} {a0 : Act} {fin : (Nat → Value) → World → Prop}
    (hback : ∀ j o, hd[j]? = some o → ∀ p ∈ predsOf o, p < j) :
    ∀ (rest : List Oper) (i : Nat) (Rs : List RelU), Rs.length = i → hd.drop i = rest → i ≤ hd.length →
      (∀ j o, j < i → hd[j]? = some o → ∀ U w, (Rs.getD j fun _ _ => True) U w = (Rs.getD j fun _ _ => True) (maskU (j :: predsOf o) U) w) →
      (∀ j U w w', j < i → C w → T w w' → (Rs.getD j fun _ _ => True) U w → (Rs.getD j fun _ _ => True) U w') →
      (∀ j o, j < i → hd[j]? = some o → ∀ U w, C w → HypsU Rs U w (predsOf o) → wpList P ops (InvPost T a0.defers w o.dst fun v w' => (Rs.getD j fun _ _ => True) (updU U j v) w' ∧ (F.contains j = true → FreshV v w w')) [o] (fillPuts hd U 0 a0) w) →
      wpInv P ops F C T hd a0 fin i Rs rest → ∃ Rs', HeadOK P ops F C T hd a0 Rs' ∧ ∀ U w, C w → AllU U w Rs' → ApartF F U → fin U w
  | [], i, Rs, hl, hdrop, hle, h1, h2, h3, h => by
    have hi : hd.length = i := by
      have := congrArg List.length hdrop
      simp at this
      omega
    refine ⟨Rs, ⟨by omega, fun j o hj => h1 j o (by rw [← hi]; exact (List.getElem?_eq_some_iff.1 hj).1) hj, fun j U w w' => ?_, fun j o hj => h3 j o (by rw [← hi]; exact (List.getElem?_eq_some_iff.1 hj).1) hj⟩, h⟩
    by_cases hj : j < i
    · exact h2 j U w w' hj
    · intro _ _ _
      rw [List.getD_eq_getElem?_getD, List.getElem?_eq_none (by omega)]
      trivial
  | o :: rest, i, Rs, hl, hdrop, hle, h1, h2, h3, h => by
    obtain ⟨r, ha, hb, hc, hn⟩ := h
    have hoi : hd[i]? = some o := by
      have := congrArg (fun l => l[0]?) hdrop
      simpa using this
    have hlt : i < hd.length := (List.getElem?_eq_some_iff.1 hoi).1
    have gl : ∀ j, j < i → (Rs ++ [r]).getD j (fun _ _ => True) = Rs.getD j (fun _ _ => True) := fun j hj => by
      rw [List.getD_eq_getElem?_getD, List.getElem?_append_left (by omega), ← List.getD_eq_getElem?_getD]
    have gi : (Rs ++ [r]).getD i (fun _ _ => True) = r := by
      rw [List.getD_eq_getElem?_getD, List.getElem?_append_right (by omega)]
      simp [hl]
    refine wpInv_ok hback rest (i + 1) (Rs ++ [r]) (by simp [hl]) ?_ (by omega) ?_ ?_ ?_ hn
    · rw [← List.drop_drop, hdrop]; rfl
    · intro j p hj hp U w
      by_cases e : j = i
      · subst e
        rw [gi]
        obtain rfl : p = o := Option.some.inj (hp.symm.trans hoi)
        exact ha U w
      · rw [gl j (by omega)]; exact h1 j p (by omega) hp U w
    · intro j U w w' hj
      by_cases e : j = i
      · subst e; rw [gi]; exact hb U w w'
      · rw [gl j (by omega)]; exact h2 j U w w' (by omega)
    · intro j p hj hp U w hC hH
      have hp' : ∀ q ∈ predsOf p, q < Rs.length := fun q hq => by have := hback j p hp q hq; omega
      have hH' := hypsU_append (predsOf p) hp' hH
      by_cases e : j = i
      · subst e
        rw [gi]
        obtain rfl : p = o := Option.some.inj (hp.symm.trans hoi)
        exact hc U w hC hH'
      · rw [gl j (by omega)]
        exact h3 j p (by omega) hp U w hC hH'
theorem hypsU_of {Rs : List RelU} {U : Nat → Value} {w : World} : ∀ (ps : List Nat), (∀ p ∈ ps, (Rs.getD p fun _ _ => True) U w) → HypsU Rs U w ps
  | [], _ => trivial
  | p :: ps, h => ⟨h p (by simp), hypsU_of ps fun q hq => h q (by simp [hq])⟩
theorem allU_of {U : Nat → Value} {w : World} : ∀ (Rs : List RelU), (∀ j, j < Rs.length → (Rs.getD j fun _ _ => True) U w) → AllU U w Rs
  | [], _ => trivial
  | r :: rs, h => ⟨by simpa using h 0 (by simp), allU_of rs fun j hj => by simpa using h (j + 1) (by simpa using hj)⟩
theorem wpAny_of_inv {F : List Nat} {C : World → Prop} {T : World → World → Prop} {n : Nat} {a0 : Act} {Rs : List RelU} {Q : Exit → Act → World → Prop} {l : List Oper} (hops : ops = l.toArray) (hB : invB ops n = true)
    (hCT : ∀ w w', C w → T w w' → C w') (hTs : ∀ w w', T w w' → w.heap.size ≤ w'.heap.size) (hFn : F.all (fun i => decide (i < n)) = true) (hOK : HeadOK P ops F C T (l.take n) a0 Rs)
    (hfin : ∀ U w, C w → AllU U w Rs → ApartF F U → wpList P ops Q (l.drop n) (fillPuts (l.take n) U 0 a0) w) :
    ∀ (f : Nat) (L : List Nat) (listed : Array Bool) (U : Nat → Value) (w : World), L.Nodup → L.length = f → (∀ j, j ∈ L ↔ j < n ∧ listed.getD j true = false) → HeadInv .any ops n listed → C w →
      (∀ j, j < n → listed.getD j false = true → (Rs.getD j fun _ _ => True) U w) → (∀ j, F.contains j = true → listed.getD j false = true → ∃ p, blkOf (U j) = some p ∧ p < w.heap.size) →
      (∀ i j, F.contains i = true → F.contains j = true → i ≠ j → listed.getD i false = true → listed.getD j false = true → blkOf (U i) ≠ blkOf (U j)) → wpAny P .any ops Q (f + (ops.size - n)) listed (fillPuts (l.take n) U 0 a0) w := by
  simp only [invB, Bool.and_eq_true, decide_eq_true_eq] at hB
  obtain ⟨⟨⟨⟨⟨hn, hs⟩, hc⟩, hback⟩, hdist⟩, hseq⟩ := hB
  have hlen : (l.take n).length = n := by subst hops; simp at hn ⊢; omega
  have hdl : (l.drop n).length = ops.size - n := by subst hops; simp
  intro f
  induction f with
  | zero =>
    intro L listed U w hnd hL hmem inv hC hR hFb hFd
    have hL0 : L = [] := List.length_eq_zero_iff.1 hL
    subst hL0
    have hall : ∀ j, j < n → listed.getD j true = true := fun j hj => by
      cases h : listed.getD j true with
      | true => rfl
      | false => exact absurd ((hmem j).2 ⟨hj, h⟩) (by simp)
    have hlisted : listed = ((List.range ops.size).map fun i => decide (i < n)).toArray := by
      apply Array.ext
      · simp [inv.size]
      · intro i h1 h2
        simp only [List.getElem_toArray, List.getElem_map, List.getElem_range]
        by_cases hi : i < n
        · have := hall i hi
          simp [h1] at this
          simp [this, hi]
        · have := inv.tail i (by omega) (by rw [← inv.size]; exact h1)
          simp [h1] at this
          simp [this, hi]
    rw [Nat.zero_add, ← hdl]
    refine wpAny_of_seq (l.drop n) n listed _ w (fun j => by subst hops; simp [List.getElem?_drop]) (by rw [hdl, hlisted]; exact hseq) ?_
    have hallf : ∀ j, j < n → listed.getD j false = true := fun j hjn => by
      have := hall j hjn
      have hjs : j < listed.size := by rw [inv.size]; omega
      simp [hjs] at this ⊢
      exact this
    have hFn' : ∀ j, F.contains j = true → j < n := fun j hj => by
      have := List.all_eq_true.1 hFn j (List.contains_iff_mem.1 hj)
      simpa using this
    refine hfin U w hC (allU_of Rs fun j hj => hR j (by rw [hOK.len, hlen] at hj; exact hj) (hallf j (by rw [hOK.len, hlen] at hj; exact hj))) (fun i j hi hj hij => hFd i j hi hj hij (hallf i (hFn' i hi)) (hallf j (hFn' j hj)))
  | succ f ih =>
    intro L listed U w hnd hL hmem inv hC hR hFb hFd
    have hne : L ≠ [] := fun h => by subst h; simp at hL
    obtain ⟨i0, hi0⟩ := List.exists_mem_of_ne_nil L hne
    obtain ⟨hi0n, hi0u⟩ := (hmem i0).1 hi0
    -- the least one that is not listed may come up
    have hready : Region.ready .any ops listed ≠ [] := by
      have key : ∀ (d i : Nat), i ≤ d → i < n → listed.getD i true = false → Region.ready .any ops listed ≠ [] := by
        intro d
        induction d with
        | zero =>
          intro i hid hin hiu
          have hi : i = 0 := by omega
          subst hi
          have hlt : 0 < ops.size := by omega
          intro h
          have : 0 ∈ Region.ready .any ops listed := mem_ready.2 ⟨hiu, ops[0], by simp [hlt], fun e he hb => absurd (backB_spec hback (i := 0) (by simp [hlt]) e he hb) (by omega)⟩
          rw [h] at this; cases this
        | succ d ihd =>
          intro i hid hin hiu
          have hlt : i < ops.size := by omega
          by_cases hex : ∃ e ∈ ops[i].after, Region.binds .any e = true ∧ listed.getD e.on false = false
          · obtain ⟨e, he, hb, hu⟩ := hex
            have hlt2 := backB_spec hback (i := i) (by simp [hlt]) e he hb
            exact ihd e.on (by omega) (by omega) (getD_in (by rw [inv.size]; omega) hu)
          · intro h
            have : i ∈ Region.ready .any ops listed := mem_ready.2 ⟨hiu, ops[i], by simp [hlt], fun e he hb => by
              cases h' : listed.getD e.on false with
              | true => rfl
              | false => exact absurd ⟨e, he, hb, h'⟩ hex⟩
            rw [h] at this; cases this
      exact key i0 i0 (Nat.le_refl _) hi0n hi0u
    rw [show f + 1 + (ops.size - n) = (f + (ops.size - n)) + 1 by omega]
    refine ⟨fun h => absurd h hready, fun i hi => ?_⟩
    obtain ⟨hiu, o, ho, hall⟩ := mem_ready.1 hi
    have hin : i < n := by
      rcases Nat.lt_or_ge i n with h | h
      · exact h
      · exact absurd hi (tail_waits hs hc hn inv _ i0 rfl hi0n hi0u i h)
    have hio : (l.take n)[i]? = some o := by
      subst hops
      rw [List.getElem?_take_of_lt hin]
      simpa using ho
    have hp : ∀ p ∈ predsOf o, p < n ∧ listed.getD p false = true := fun p hp => by
      obtain ⟨e, he, hb, rfl⟩ := of_mem_predsOf hp
      have := backB_spec hback ho e he hb
      exact ⟨by omega, hall e he hb⟩
    have hstep := hOK.step i o hio U w hC (hypsU_of _ fun p hpp => hR p (hp p hpp).1 (hp p hpp).2)
    refine wpOp_of_list_inv ho (fillPuts_defers _ _ _ _) (fun v w' hT hG => ?_) hstep
    have hC' := hCT w w' hC hT
    rw [← put_slot, fillPuts_put (l.take n) U 0 i o _ a0 (by subst hops; simpa using hdist) hio, Nat.zero_add]
    refine ih (L.erase i) (listed.setIfInBounds i true) _ w' (hnd.erase i) (by rw [List.length_erase_of_mem ((hmem i).2 ⟨hin, hiu⟩), hL]; rfl) (fun j => ?_) (inv.set hi hin) hC' (fun j hj hjl => ?_) ?_ ?_
    · rw [hnd.mem_erase_iff, hmem j]
      by_cases e : i = j
      · subst e
        constructor
        · rintro ⟨h, _⟩; exact absurd rfl h
        · rintro ⟨_, h⟩
          have hsz : i < listed.size := by rw [inv.size]; omega
          simp [hsz] at h
      · rw [getD_set_ne true e]
        constructor
        · rintro ⟨_, h⟩; exact h
        · intro h; exact ⟨fun h' => e h'.symm, h⟩
    · by_cases e : i = j
      · subst e; exact hG.1
      · rw [getD_set_ne false e] at hjl
        have hj1 := hOK.stay j U w w' hC hT (hR j hj hjl)
        have hjs : j < ops.size := by omega
        obtain ⟨oj, hoj⟩ : ∃ oj, ops[j]? = some oj := ⟨ops[j], by simp [hjs]⟩
        have hjo : (l.take n)[j]? = some oj := by
          subst hops
          rw [List.getElem?_take_of_lt hj]
          simpa using hoj
        have hni : (j :: predsOf oj).contains i = false := by
          rw [Bool.eq_false_iff]
          intro h
          rcases List.mem_cons.1 (List.contains_iff_mem.1 h) with h | h
          · exact e h
          · obtain ⟨e', he', hb', rfl⟩ := of_mem_predsOf h
            have := inv.closed j oj hoj hjl e' he' hb'
            rw [getD_both hiu] at this
            cases this
        rw [hOK.loc j oj hjo, maskU_upd hni, ← hOK.loc j oj hjo]
        exact hj1
    · intro j hj hjl
      by_cases e : i = j
      · subst e
        obtain ⟨p, hp1, _, hp2⟩ := hG.2 hj
        exact ⟨p, by rw [updU_eq]; exact hp1, hp2⟩
      · rw [getD_set_ne false e] at hjl
        obtain ⟨p, hp1, hp2⟩ := hFb j hj hjl
        refine ⟨p, ?_, Nat.lt_of_lt_of_le hp2 (hTs _ _ hT)⟩
        have : updU U i (slotOf (fillPuts (l.take n) U 0 a0 |>.put o.dst v) o.dst) j = U j := by unfold updU; rw [if_neg (fun h => e h.symm)]
        rw [this]; exact hp1
    · intro j k hj hk hjk hjl hkl
      have old : ∀ q, i ≠ q → updU U i (slotOf (fillPuts (l.take n) U 0 a0 |>.put o.dst v) o.dst) q = U q := fun q e => by unfold updU; rw [if_neg (fun h => e h.symm)]
      by_cases e : i = j
      · subst e
        have e2 : i ≠ k := hjk
        rw [getD_set_ne false e2] at hkl
        obtain ⟨p, hp1, hp2, _⟩ := hG.2 hj
        obtain ⟨q, hq1, hq2⟩ := hFb k hk hkl
        rw [updU_eq, old k e2, hp1, hq1]
        intro h
        have := Option.some.inj h
        omega
      · rw [getD_set_ne false e] at hjl
        by_cases e2 : i = k
        · subst e2
          obtain ⟨p, hp1, hp2, _⟩ := hG.2 hk
          obtain ⟨q, hq1, hq2⟩ := hFb j hj hjl
          rw [updU_eq, old j e, hp1, hq1]
          intro h
          have := Option.some.inj h
          omega
        · rw [getD_set_ne false e2] at hkl
          rw [old j e, old k e2]
          exact hFd j k hj hk hjk hjl hkl
/-- An operation whose value hangs on the values ahead of it alone. -/
theorem wpInv_det {F : List Nat} {C : World → Prop} {T : World → World → Prop} {hd : List Oper} {a0 : Act} {fin : (Nat → Value) → World → Prop} {i : Nat} {Rs : List RelU} {o : Oper} {rest : List Oper} (hp : (predsOf o).contains i = false) (hF : F.contains i = false)
    (h : ∃ f : (Nat → Value) → Value, (∀ U w, C w → HypsU Rs U w (predsOf o) → wpList P ops (InvPost T a0.defers w o.dst fun v _ => v = f U) [o] (fillPuts hd U 0 a0) w) ∧
      (∀ U, f U = f (maskU (predsOf o) U)) ∧ wpInv P ops F C T hd a0 fin (i + 1) (Rs ++ [fun U _ => U i = f U]) rest) : wpInv P ops F C T hd a0 fin i Rs (o :: rest) := by
  obtain ⟨f, h1, h2, h3⟩ := h
  have e1 : ∀ U, maskU (predsOf o) (maskU (i :: predsOf o) U) = maskU (predsOf o) U := fun U => by
    funext j
    unfold maskU
    by_cases hj : (predsOf o).contains j = true
    · rw [if_pos hj, if_pos hj, if_pos (by simp at hj ⊢; exact .inr hj)]
    · rw [if_neg hj, if_neg hj]
  refine ⟨fun U _ => U i = f U, fun U w => ?_, fun _ _ _ _ _ h => h, fun U w hC hH => ?_, h3⟩
  · have e2 : maskU (i :: predsOf o) U i = U i := by unfold maskU; rw [if_pos (by simp)]
    have e3 : f (maskU (i :: predsOf o) U) = f U := by rw [h2, e1, ← h2]
    show (U i = f U) = (maskU (i :: predsOf o) U i = f (maskU (i :: predsOf o) U))
    rw [e2, e3]
  · refine wpList_post (fun a' w' hq => ?_) (h1 U w hC hH)
    refine ⟨hq.1, hq.2.1, hq.2.2.1, ?_, fun h => by rw [hF] at h; cases h⟩
    have hq4 := hq.2.2.2
    show updU U i (slotOf a' o.dst) i = f (updU U i (slotOf a' o.dst))
    rw [updU_eq, hq4, h2 (updU U i (f U)), maskU_upd hp, ← h2]
/-- What stands in the slots at the beginning. -/
theorem fillPuts_start : ∀ (l : List Oper) (i : Nat) (a : Act), ∃ U, fillPuts l U i a = a
  | [], _, a => ⟨fun _ => undef, rfl⟩
  | o :: l, i, a => by
    obtain ⟨U, hU⟩ := fillPuts_start l (i + 1) a
    refine ⟨updU U i (slotOf a o.dst), ?_⟩
    simp only [fillPuts, updU_eq]
    rw [fillPuts_upd_lt l U i (i + 1) _ _ (by omega)]
    have : a.put o.dst (slotOf a o.dst) = a := by
      unfold Act.put slotOf
      cases o.dst with
      | none => rfl
      | some d =>
        simp only
        by_cases h : d < a.tmps.size
        · obtain ⟨tm, df⟩ := a
          congr 1
          apply Array.ext
          · simp
          · intro k h1 h2
            rw [Array.getElem_setIfInBounds]
            split
            · rename_i e; subst e; simp
            · rfl
        · rw [Array.setIfInBounds_eq_of_size_le (Nat.le_of_not_lt h)]
    rw [this]
    exact hU
theorem wp_region_inv {id : Nat} {Q : Exit → Act → World → Prop} {a : Act} {w : World} {l : List Oper} (F : List Nat) (C : World → Prop) (T : World → World → Prop) (n : Nat) (hm : P.follows .mixedOrders = true) (hB : invB l.toArray n = true)
    (hFn : F.all (fun i => decide (i < n)) = true) (hC : C w.drew) (hCT : ∀ w w', C w → T w w' → C w') (hTs : ∀ w w', T w w' → w.heap.size ≤ w'.heap.size)
    (h : wpInv P l.toArray F C T (l.take n) a (fun U w => wpList P l.toArray Q (l.drop n) (fillPuts (l.take n) U 0 a) w) 0 [] (l.take n)) : (Code.region id l.toArray true).wp P Q a w := by
  refine wp_region_any hm ?_
  have hB' := hB
  simp only [invB, Bool.and_eq_true, decide_eq_true_eq] at hB'
  obtain ⟨⟨⟨⟨⟨hn, hs⟩, hc⟩, hback⟩, hdist⟩, hseq⟩ := hB'
  have hn' : n < l.length := by simpa using hn
  obtain ⟨Rs, hOK, hfin⟩ := wpInv_ok (P := P) (hd := l.take n) (fun j o hj p hp => by
    obtain ⟨e, he, hb, rfl⟩ := of_mem_predsOf hp
    have hjn : j < n := by have := (List.getElem?_eq_some_iff.1 hj).1; simp at this; omega
    rw [List.getElem?_take_of_lt hjn] at hj
    exact backB_spec hback (i := j) (by simpa using hj) e he hb) (l.take n) 0 [] rfl rfl (by omega) (fun j o hj => absurd hj (by omega)) (fun j U w w' hj => absurd hj (by omega)) (fun j o hj => absurd hj (by omega)) h
  obtain ⟨U, hU⟩ := fillPuts_start (l.take n) 0 a
  have := wpAny_of_inv (P := P) (Q := Q) rfl hB hCT hTs hFn hOK hfin n (List.range n) (Array.replicate l.toArray.size false) U { w with drawn := w.drawn + 1 } List.nodup_range (by simp) (fun j => by
      rw [List.mem_range]
      constructor
      · intro hj
        exact ⟨hj, getD_in (by simp; omega) (getD_replicate_false _ _)⟩
      · exact fun h => h.1)
    ⟨by simp, fun j oj _ hl => (by rw [getD_replicate_false] at hl; cases hl), fun t _ ht => getD_in (by simpa using ht) (getD_replicate_false _ _)⟩ hC (fun j _ hl => by rw [getD_replicate_false] at hl; cases hl) (fun j _ hl => by rw [getD_replicate_false] at hl; cases hl) (fun i j _ _ _ hl => by rw [getD_replicate_false] at hl; cases hl)
  rw [hU] at this
  have e : n + (l.toArray.size - n) = l.toArray.size := by omega
  rwa [e] at this
end
end Go
end

section
namespace Go.RI
open Go Go.RowKit
section
variable {P : Program} {ops : Array Oper}
/-- The walk: for each operation of the head what holds of its value. -/
def wpInv (P : Program) (ops : Array Oper) (F : List Nat) (C : (Nat → Bool) → World → Prop) (T : Nat → World → World → Prop) (hd : List Oper) (a0 : Act) (fin : (Nat → Value) → World → Prop) : Nat → List RelU → List Oper → Prop
  | i, Rs, [] => ∀ D U w, (∀ k, k < i → D k = true) → C D w → AllU U w Rs → ApartF F U → fin U w
  | i, Rs, o :: rest => ∃ r : RelU, (∀ U w, r U w = r (maskU (i :: predsOf o) U) w) ∧ (∀ k D U w w', k ≠ i → D k = false → C D w → T k w w' → r U w → r U w') ∧
      (∀ D U w, D i = false → C D w → HypsU Rs U w (predsOf o) → wpList P ops (InvPost (T i) a0.defers w o.dst fun v w' => r (updU U i v) w' ∧ (F.contains i = true → FreshV v w w')) [o] (fillPuts hd U 0 a0) w) ∧
      wpInv P ops F C T hd a0 fin (i + 1) (Rs ++ [r]) rest
/-- What is known of a head: each operation's relation, that it looks at no other's value, that it stays, and its step. -/
structure HeadOK (P : Program) (ops : Array Oper) (F : List Nat) (C : (Nat → Bool) → World → Prop) (T : Nat → World → World → Prop) (hd : List Oper) (a0 : Act) (Rs : List RelU) : Prop where
  len : Rs.length = hd.length
  loc : ∀ j o, hd[j]? = some o → ∀ U w, (Rs.getD j fun _ _ => True) U w = (Rs.getD j fun _ _ => True) (maskU (j :: predsOf o) U) w
  stay : ∀ k j D U w w', k ≠ j → D k = false → C D w → T k w w' → (Rs.getD j fun _ _ => True) U w → (Rs.getD j fun _ _ => True) U w'
  step : ∀ j o, hd[j]? = some o → ∀ D U w, D j = false → C D w → HypsU Rs U w (predsOf o) → wpList P ops (InvPost (T j) a0.defers w o.dst fun v w' => (Rs.getD j fun _ _ => True) (updU U j v) w' ∧ (F.contains j = true → FreshV v w w')) [o] (fillPuts hd U 0 a0) w
theorem wpInv_ok {F : List Nat} {C : (Nat → Bool) → World → Prop} {T : Nat → World → World → Prop} {hd : List Oper} {a0 : Act} {fin : (Nat → Value) → World → Prop}
    (hback : ∀ j o, hd[j]? = some o → ∀ p ∈ predsOf o, p < j) :
    ∀ (rest : List Oper) (i : Nat) (Rs : List RelU), Rs.length = i → hd.drop i = rest → i ≤ hd.length →
      (∀ j o, j < i → hd[j]? = some o → ∀ U w, (Rs.getD j fun _ _ => True) U w = (Rs.getD j fun _ _ => True) (maskU (j :: predsOf o) U) w) →
      (∀ k j D U w w', j < i → k ≠ j → D k = false → C D w → T k w w' → (Rs.getD j fun _ _ => True) U w → (Rs.getD j fun _ _ => True) U w') →
      (∀ j o, j < i → hd[j]? = some o → ∀ D U w, D j = false → C D w → HypsU Rs U w (predsOf o) → wpList P ops (InvPost (T j) a0.defers w o.dst fun v w' => (Rs.getD j fun _ _ => True) (updU U j v) w' ∧ (F.contains j = true → FreshV v w w')) [o] (fillPuts hd U 0 a0) w) →
      wpInv P ops F C T hd a0 fin i Rs rest → ∃ Rs', HeadOK P ops F C T hd a0 Rs' ∧ ∀ D U w, (∀ k, k < hd.length → D k = true) → C D w → AllU U w Rs' → ApartF F U → fin U w
  | [], i, Rs, hl, hdrop, hle, h1, h2, h3, h => by
    have hi : hd.length = i := by
      have := congrArg List.length hdrop
      simp at this
      omega
    refine ⟨Rs, ⟨by omega, fun j o hj => h1 j o (by rw [← hi]; exact (List.getElem?_eq_some_iff.1 hj).1) hj, fun k j D U w w' => ?_, fun j o hj => h3 j o (by rw [← hi]; exact (List.getElem?_eq_some_iff.1 hj).1) hj⟩, fun D U w hD => h D U w (fun k hk => hD k (by omega))⟩
    by_cases hj : j < i
    · exact h2 k j D U w w' hj
    · intro _ _ _ _ _
      rw [List.getD_eq_getElem?_getD, List.getElem?_eq_none (by omega)]
      trivial
  | o :: rest, i, Rs, hl, hdrop, hle, h1, h2, h3, h => by
    obtain ⟨r, ha, hb, hc, hn⟩ := h
    have hoi : hd[i]? = some o := by
      have := congrArg (fun l => l[0]?) hdrop
      simpa using this
    have hlt : i < hd.length := (List.getElem?_eq_some_iff.1 hoi).1
    have gl : ∀ j, j < i → (Rs ++ [r]).getD j (fun _ _ => True) = Rs.getD j (fun _ _ => True) := fun j hj => by
      rw [List.getD_eq_getElem?_getD, List.getElem?_append_left (by omega), ← List.getD_eq_getElem?_getD]
    have gi : (Rs ++ [r]).getD i (fun _ _ => True) = r := by
      rw [List.getD_eq_getElem?_getD, List.getElem?_append_right (by omega)]
      simp [hl]
    refine wpInv_ok hback rest (i + 1) (Rs ++ [r]) (by simp [hl]) ?_ (by omega) ?_ ?_ ?_ hn
    · rw [← List.drop_drop, hdrop]; rfl
    · intro j p hj hp U w
      by_cases e : j = i
      · subst e
        rw [gi]
        obtain rfl : p = o := Option.some.inj (hp.symm.trans hoi)
        exact ha U w
      · rw [gl j (by omega)]; exact h1 j p (by omega) hp U w
    · intro k j D U w w' hj
      by_cases e : j = i
      · subst e; rw [gi]; exact hb k D U w w'
      · rw [gl j (by omega)]; exact h2 k j D U w w' (by omega)
    · intro j p hj hp D U w hDj hC hH
      have hp' : ∀ q ∈ predsOf p, q < Rs.length := fun q hq => by have := hback j p hp q hq; omega
      have hH' := hypsU_append (predsOf p) hp' hH
      by_cases e : j = i
      · subst e
        rw [gi]
        obtain rfl : p = o := Option.some.inj (hp.symm.trans hoi)
        exact hc D U w hDj hC hH'
      · rw [gl j (by omega)]
        exact h3 j p (by omega) hp D U w hDj hC hH'
theorem wpAny_of_inv {F : List Nat} {C : (Nat → Bool) → World → Prop} {T : Nat → World → World → Prop} {n : Nat} {a0 : Act} {Rs : List RelU} {Q : Exit → Act → World → Prop} {l : List Oper} (hops : ops = l.toArray) (hB : invB ops n = true)
    (hCT : ∀ k D w w', D k = false → C D w → T k w w' → C (fun j => if j = k then true else D j) w') (hTs : ∀ k w w', T k w w' → w.heap.size ≤ w'.heap.size) (hFn : F.all (fun i => decide (i < n)) = true) (hOK : HeadOK P ops F C T (l.take n) a0 Rs)
    (hfin : ∀ D U w, (∀ k, k < n → D k = true) → C D w → AllU U w Rs → ApartF F U → wpList P ops Q (l.drop n) (fillPuts (l.take n) U 0 a0) w) :
    ∀ (f : Nat) (L : List Nat) (listed : Array Bool) (U : Nat → Value) (w : World), L.Nodup → L.length = f → (∀ j, j ∈ L ↔ j < n ∧ listed.getD j true = false) → HeadInv .any ops n listed → C (fun k => listed.getD k false) w →
      (∀ j, j < n → listed.getD j false = true → (Rs.getD j fun _ _ => True) U w) → (∀ j, F.contains j = true → listed.getD j false = true → ∃ p, blkOf (U j) = some p ∧ p < w.heap.size) →
      (∀ i j, F.contains i = true → F.contains j = true → i ≠ j → listed.getD i false = true → listed.getD j false = true → blkOf (U i) ≠ blkOf (U j)) → wpAny P .any ops Q (f + (ops.size - n)) listed (fillPuts (l.take n) U 0 a0) w := by
  simp only [invB, Bool.and_eq_true, decide_eq_true_eq] at hB
  obtain ⟨⟨⟨⟨⟨hn, hs⟩, hc⟩, hback⟩, hdist⟩, hseq⟩ := hB
  have hlen : (l.take n).length = n := by subst hops; simp at hn ⊢; omega
  have hdl : (l.drop n).length = ops.size - n := by subst hops; simp
  intro f
  induction f with
  | zero =>
    intro L listed U w hnd hL hmem inv hC hR hFb hFd
    have hL0 : L = [] := List.length_eq_zero_iff.1 hL
    subst hL0
    have hall : ∀ j, j < n → listed.getD j true = true := fun j hj => by
      cases h : listed.getD j true with
      | true => rfl
      | false => exact absurd ((hmem j).2 ⟨hj, h⟩) (by simp)
    have hlisted : listed = ((List.range ops.size).map fun i => decide (i < n)).toArray := by
      apply Array.ext
      · simp [inv.size]
      · intro i h1 h2
        simp only [List.getElem_toArray, List.getElem_map, List.getElem_range]
        by_cases hi : i < n
        · have := hall i hi
          simp [h1] at this
          simp [this, hi]
        · have := inv.tail i (by omega) (by rw [← inv.size]; exact h1)
          simp [h1] at this
          simp [this, hi]
    rw [Nat.zero_add, ← hdl]
    refine wpAny_of_seq (l.drop n) n listed _ w (fun j => by subst hops; simp [List.getElem?_drop]) (by rw [hdl, hlisted]; exact hseq) ?_
    have hallf : ∀ j, j < n → listed.getD j false = true := fun j hjn => by
      have := hall j hjn
      have hjs : j < listed.size := by rw [inv.size]; omega
      simp [hjs] at this ⊢
      exact this
    have hFn' : ∀ j, F.contains j = true → j < n := fun j hj => by
      have := List.all_eq_true.1 hFn j (List.contains_iff_mem.1 hj)
      simpa using this
    refine hfin _ U w hallf hC (allU_of Rs fun j hj => hR j (by rw [hOK.len, hlen] at hj; exact hj) (hallf j (by rw [hOK.len, hlen] at hj; exact hj))) (fun i j hi hj hij => hFd i j hi hj hij (hallf i (hFn' i hi)) (hallf j (hFn' j hj)))
  | succ f ih =>
    intro L listed U w hnd hL hmem inv hC hR hFb hFd
    have hne : L ≠ [] := fun h => by subst h; simp at hL
    obtain ⟨i0, hi0⟩ := List.exists_mem_of_ne_nil L hne
    obtain ⟨hi0n, hi0u⟩ := (hmem i0).1 hi0
    -- the least one that is not listed may come up
    have hready : Region.ready .any ops listed ≠ [] := by
      have key : ∀ (d i : Nat), i ≤ d → i < n → listed.getD i true = false → Region.ready .any ops listed ≠ [] := by
        intro d
        induction d with
        | zero =>
          intro i hid hin hiu
          have hi : i = 0 := by omega
          subst hi
          have hlt : 0 < ops.size := by omega
          intro h
          have : 0 ∈ Region.ready .any ops listed := mem_ready.2 ⟨hiu, ops[0], by simp [hlt], fun e he hb => absurd (backB_spec hback (i := 0) (by simp [hlt]) e he hb) (by omega)⟩
          rw [h] at this; cases this
        | succ d ihd =>
          intro i hid hin hiu
          have hlt : i < ops.size := by omega
          by_cases hex : ∃ e ∈ ops[i].after, Region.binds .any e = true ∧ listed.getD e.on false = false
          · obtain ⟨e, he, hb, hu⟩ := hex
            have hlt2 := backB_spec hback (i := i) (by simp [hlt]) e he hb
            exact ihd e.on (by omega) (by omega) (getD_in (by rw [inv.size]; omega) hu)
          · intro h
            have : i ∈ Region.ready .any ops listed := mem_ready.2 ⟨hiu, ops[i], by simp [hlt], fun e he hb => by
              cases h' : listed.getD e.on false with
              | true => rfl
              | false => exact absurd ⟨e, he, hb, h'⟩ hex⟩
            rw [h] at this; cases this
      exact key i0 i0 (Nat.le_refl _) hi0n hi0u
    rw [show f + 1 + (ops.size - n) = (f + (ops.size - n)) + 1 by omega]
    refine ⟨fun h => absurd h hready, fun i hi => ?_⟩
    obtain ⟨hiu, o, ho, hall⟩ := mem_ready.1 hi
    have hin : i < n := by
      rcases Nat.lt_or_ge i n with h | h
      · exact h
      · exact absurd hi (tail_waits hs hc hn inv _ i0 rfl hi0n hi0u i h)
    have hio : (l.take n)[i]? = some o := by
      subst hops
      rw [List.getElem?_take_of_lt hin]
      simpa using ho
    have hp : ∀ p ∈ predsOf o, p < n ∧ listed.getD p false = true := fun p hp => by
      obtain ⟨e, he, hb, rfl⟩ := of_mem_predsOf hp
      have := backB_spec hback ho e he hb
      exact ⟨by omega, hall e he hb⟩
    have hstep := hOK.step i o hio _ U w (getD_both hiu) hC (hypsU_of _ fun p hpp => hR p (hp p hpp).1 (hp p hpp).2)
    refine wpOp_of_list_inv ho (fillPuts_defers _ _ _ _) (fun v w' hT hG => ?_) hstep
    have hC' := hCT i _ w w' (getD_both hiu) hC hT
    have hDe : (fun j => if j = i then true else listed.getD j false) = fun k => (listed.setIfInBounds i true).getD k false := by
      funext j
      by_cases e : i = j
      · subst e
        have hsz : i < listed.size := by rw [inv.size]; omega
        simp [hsz]
      · rw [if_neg (fun h => e h.symm), getD_set_ne false e]
    rw [hDe] at hC'
    rw [← put_slot, fillPuts_put (l.take n) U 0 i o _ a0 (by subst hops; simpa using hdist) hio, Nat.zero_add]
    refine ih (L.erase i) (listed.setIfInBounds i true) _ w' (hnd.erase i) (by rw [List.length_erase_of_mem ((hmem i).2 ⟨hin, hiu⟩), hL]; rfl) (fun j => ?_) (inv.set hi hin) hC' (fun j hj hjl => ?_) ?_ ?_
    · rw [hnd.mem_erase_iff, hmem j]
      by_cases e : i = j
      · subst e
        constructor
        · rintro ⟨h, _⟩; exact absurd rfl h
        · rintro ⟨_, h⟩
          have hsz : i < listed.size := by rw [inv.size]; omega
          simp [hsz] at h
      · rw [getD_set_ne true e]
        constructor
        · rintro ⟨_, h⟩; exact h
        · intro h; exact ⟨fun h' => e h'.symm, h⟩
    · by_cases e : i = j
      · subst e; exact hG.1
      · rw [getD_set_ne false e] at hjl
        have hj1 := hOK.stay i j _ U w w' e (getD_both hiu) hC hT (hR j hj hjl)
        have hjs : j < ops.size := by omega
        obtain ⟨oj, hoj⟩ : ∃ oj, ops[j]? = some oj := ⟨ops[j], by simp [hjs]⟩
        have hjo : (l.take n)[j]? = some oj := by
          subst hops
          rw [List.getElem?_take_of_lt hj]
          simpa using hoj
        have hni : (j :: predsOf oj).contains i = false := by
          rw [Bool.eq_false_iff]
          intro h
          rcases List.mem_cons.1 (List.contains_iff_mem.1 h) with h | h
          · exact e h
          · obtain ⟨e', he', hb', rfl⟩ := of_mem_predsOf h
            have := inv.closed j oj hoj hjl e' he' hb'
            rw [getD_both hiu] at this
            cases this
        rw [hOK.loc j oj hjo, maskU_upd hni, ← hOK.loc j oj hjo]
        exact hj1
    · intro j hj hjl
      by_cases e : i = j
      · subst e
        obtain ⟨p, hp1, _, hp2⟩ := hG.2 hj
        exact ⟨p, by rw [updU_eq]; exact hp1, hp2⟩
      · rw [getD_set_ne false e] at hjl
        obtain ⟨p, hp1, hp2⟩ := hFb j hj hjl
        refine ⟨p, ?_, Nat.lt_of_lt_of_le hp2 (hTs _ _ _ hT)⟩
        have : updU U i (slotOf (fillPuts (l.take n) U 0 a0 |>.put o.dst v) o.dst) j = U j := by unfold updU; rw [if_neg (fun h => e h.symm)]
        rw [this]; exact hp1
    · intro j k hj hk hjk hjl hkl
      have old : ∀ q, i ≠ q → updU U i (slotOf (fillPuts (l.take n) U 0 a0 |>.put o.dst v) o.dst) q = U q := fun q e => by unfold updU; rw [if_neg (fun h => e h.symm)]
      by_cases e : i = j
      · subst e
        have e2 : i ≠ k := hjk
        rw [getD_set_ne false e2] at hkl
        obtain ⟨p, hp1, hp2, _⟩ := hG.2 hj
        obtain ⟨q, hq1, hq2⟩ := hFb k hk hkl
        rw [updU_eq, old k e2, hp1, hq1]
        intro h
        have := Option.some.inj h
        omega
      · rw [getD_set_ne false e] at hjl
        by_cases e2 : i = k
        · subst e2
          obtain ⟨p, hp1, hp2, _⟩ := hG.2 hk
          obtain ⟨q, hq1, hq2⟩ := hFb j hj hjl
          rw [updU_eq, old j e, hp1, hq1]
          intro h
          have := Option.some.inj h
          omega
        · rw [getD_set_ne false e2] at hkl
          rw [old j e, old k e2]
          exact hFd j k hj hk hjk hjl hkl
/-- An operation whose value hangs on the values ahead of it alone. -/
theorem wpInv_det {F : List Nat} {C : (Nat → Bool) → World → Prop} {T : Nat → World → World → Prop} {hd : List Oper} {a0 : Act} {fin : (Nat → Value) → World → Prop} {i : Nat} {Rs : List RelU} {o : Oper} {rest : List Oper} (hp : (predsOf o).contains i = false) (hF : F.contains i = false)
    (h : ∃ f : (Nat → Value) → Value, (∀ D U w, D i = false → C D w → HypsU Rs U w (predsOf o) → wpList P ops (InvPost (T i) a0.defers w o.dst fun v _ => v = f U) [o] (fillPuts hd U 0 a0) w) ∧
      (∀ U, f U = f (maskU (predsOf o) U)) ∧ wpInv P ops F C T hd a0 fin (i + 1) (Rs ++ [fun U _ => U i = f U]) rest) : wpInv P ops F C T hd a0 fin i Rs (o :: rest) := by
  obtain ⟨f, h1, h2, h3⟩ := h
  have e1 : ∀ U, maskU (predsOf o) (maskU (i :: predsOf o) U) = maskU (predsOf o) U := fun U => by
    funext j
    unfold maskU
    by_cases hj : (predsOf o).contains j = true
    · rw [if_pos hj, if_pos hj, if_pos (by simp at hj ⊢; exact .inr hj)]
    · rw [if_neg hj, if_neg hj]
  refine ⟨fun U _ => U i = f U, fun U w => ?_, fun _ _ _ _ _ _ _ _ _ h => h, fun D U w hDi hC hH => ?_, h3⟩
  · have e2 : maskU (i :: predsOf o) U i = U i := by unfold maskU; rw [if_pos (by simp)]
    have e3 : f (maskU (i :: predsOf o) U) = f U := by rw [h2, e1, ← h2]
    show (U i = f U) = (maskU (i :: predsOf o) U i = f (maskU (i :: predsOf o) U))
    rw [e2, e3]
  · refine wpList_post (T := T i) (fun a' w' hq => ?_) (h1 D U w hDi hC hH)
    refine ⟨hq.1, hq.2.1, hq.2.2.1, ?_, fun h => by rw [hF] at h; cases h⟩
    have hq4 := hq.2.2.2
    show updU U i (slotOf a' o.dst) i = f (updU U i (slotOf a' o.dst))
    rw [updU_eq, hq4, h2 (updU U i (f U)), maskU_upd hp, ← h2]
theorem wp_region_inv {id : Nat} {Q : Exit → Act → World → Prop} {a : Act} {w : World} {l : List Oper} (F : List Nat) (C : (Nat → Bool) → World → Prop) (T : Nat → World → World → Prop) (n : Nat) (hm : P.follows .mixedOrders = true) (hB : invB l.toArray n = true)
    (hFn : F.all (fun i => decide (i < n)) = true) (hC : C (fun _ => false) w.drew) (hCT : ∀ k D w w', D k = false → C D w → T k w w' → C (fun j => if j = k then true else D j) w') (hTs : ∀ k w w', T k w w' → w.heap.size ≤ w'.heap.size)
    (h : wpInv P l.toArray F C T (l.take n) a (fun U w => wpList P l.toArray Q (l.drop n) (fillPuts (l.take n) U 0 a) w) 0 [] (l.take n)) : (Code.region id l.toArray true).wp P Q a w := by
  refine wp_region_any hm ?_
  have hB' := hB
  simp only [invB, Bool.and_eq_true, decide_eq_true_eq] at hB'
  obtain ⟨⟨⟨⟨⟨hn, hs⟩, hc⟩, hback⟩, hdist⟩, hseq⟩ := hB'
  have hn' : n < l.length := by simpa using hn
  obtain ⟨Rs, hOK, hfin⟩ := wpInv_ok (P := P) (hd := l.take n) (fun j o hj p hp => by
    obtain ⟨e, he, hb, rfl⟩ := of_mem_predsOf hp
    have hjn : j < n := by have := (List.getElem?_eq_some_iff.1 hj).1; simp at this; omega
    rw [List.getElem?_take_of_lt hjn] at hj
    exact backB_spec hback (i := j) (by simpa using hj) e he hb) (l.take n) 0 [] rfl rfl (by omega) (fun j o hj => absurd hj (by omega)) (fun k j D U w w' hj => absurd hj (by omega)) (fun j o hj => absurd hj (by omega)) h
  obtain ⟨U, hU⟩ := fillPuts_start (l.take n) 0 a
  have := wpAny_of_inv (P := P) (Q := Q) rfl hB hCT hTs hFn hOK (fun D U w hD => hfin D U w (fun k hk => hD k (by simp at hk; omega))) n (List.range n) (Array.replicate l.toArray.size false) U { w with drawn := w.drawn + 1 } List.nodup_range (by simp) (fun j => by
      rw [List.mem_range]
      constructor
      · intro hj
        exact ⟨hj, getD_in (by simp; omega) (getD_replicate_false _ _)⟩
      · exact fun h => h.1)
    ⟨by simp, fun j oj _ hl => (by rw [getD_replicate_false] at hl; cases hl), fun t _ ht => getD_in (by simpa using ht) (getD_replicate_false _ _)⟩ (by
      have e : (fun k => (Array.replicate l.toArray.size false).getD k false) = fun _ => false := funext fun k => getD_replicate_false _ _
      rw [e]; exact hC) (fun j _ hl => by rw [getD_replicate_false] at hl; cases hl) (fun j _ hl => by rw [getD_replicate_false] at hl; cases hl) (fun i j _ _ _ hl => by rw [getD_replicate_false] at hl; cases hl)
  rw [hU] at this
  have e : n + (l.toArray.size - n) = l.toArray.size := by omega
  rwa [e] at this
end
end Go.RI
end

section
namespace Go
open Go.RowKit
set_option linter.unusedSimpArgs false
/-- A cell of a kind, within its bounds. -/
def Leaf.fitsW : Leaf → Value → Bool
  | .int k, .int k' n => decide (k = k') && (Lit.int k n).wf
  | .bool, .bool _ => true
  | _, _ => false
def fitAllW : List Leaf → List Value → Bool
  | [], [] => true
  | l :: ls, x :: xs => l.fitsW x && fitAllW ls xs
  | _, _ => false
theorem fitAllW_append : ∀ {ls ms : List Leaf} {xs ys : List Value}, fitAllW ls xs = true → fitAllW ms ys = true → fitAllW (ls ++ ms) (xs ++ ys) = true
  | [], ms, [], ys, _, h2 => by simpa using h2
  | l :: ls, ms, x :: xs, ys, h1, h2 => by
    simp only [fitAllW, Bool.and_eq_true] at h1
    simp only [List.cons_append, fitAllW, Bool.and_eq_true]
    exact ⟨h1.1, fitAllW_append h1.2 h2⟩
theorem fitAllW_length : ∀ {ls : List Leaf} {xs : List Value}, fitAllW ls xs = true → xs.length = ls.length
  | [], [], _ => rfl
  | _ :: ls, _ :: xs, h => by
    simp only [fitAllW, Bool.and_eq_true] at h
    simp [fitAllW_length h.2]
theorem fitAllW_at : ∀ {ls : List Leaf} {xs : List Value} (i : Nat) (k : IntKind), fitAllW ls xs = true → ls[i]? = some (.int k) → ∃ n, xs[i]? = some (.int k n) ∧ (Lit.int k n).wf = true
  | l :: ls, x :: xs, 0, k, h, hi => by
    obtain rfl : l = .int k := by simpa using hi
    simp only [fitAllW, Bool.and_eq_true] at h
    have h1 := h.1
    cases x with
    | int k' n =>
      simp only [Leaf.fitsW, Bool.and_eq_true, decide_eq_true_eq] at h1
      obtain ⟨rfl, hw⟩ := h1
      exact ⟨n, rfl, hw⟩
    | _ => exact absurd h1 (by simp [Leaf.fitsW])
  | l :: ls, x :: xs, i + 1, k, h, hi => by
    simp only [fitAllW, Bool.and_eq_true] at h
    simpa using fitAllW_at i k h.2 (by simpa using hi)
theorem fitAllW_int {k : IntKind} {ls : List Leaf} {xs : List Value} (h : fitAllW (.int k :: ls) xs = true) : ∃ n ys, xs = .int k n :: ys ∧ (Lit.int k n).wf = true ∧ fitAllW ls ys = true := by
  cases xs with
  | nil => simp [fitAllW] at h
  | cons x ys =>
    simp only [fitAllW, Bool.and_eq_true] at h
    obtain ⟨n, h1, h2⟩ := fitAllW_at (ls := [.int k]) (xs := [x]) 0 k (by simp [fitAllW, h.1]) rfl
    obtain rfl : x = .int k n := by simpa using h1
    exact ⟨n, ys, rfl, h2, h.2⟩
theorem fitAllW_nil {xs : List Value} (h : fitAllW [] xs = true) : xs = [] := by
  cases xs with
  | nil => rfl
  | cons x ys => simp [fitAllW] at h
theorem layout_cells {P : Program} {d : Nat} {t : TypeId} {ls : List Leaf} (h : layout P d t = some ls) : P.cellsOf t = ls.length := by
  obtain ⟨i, h1, h2⟩ := layout_info h
  simp [Program.cellsOf, h1, h2]
section
variable {H : Type} {enc : TypeId × Value → H} {P : Program} {w : World} {base : Nat} {spare : Nat → Bool} {held : Bool}
theorem fields_flat {d n : Nat} (IH : ∀ (t : TypeId) (ls : List Leaf) (cs : List Value) (x : DataW H × List MemPlace), layout P d t = some ls → DataW.trod enc P w base spare held n t cs = some x → fitAllW ls cs = true) (cs : List Value) :
    ∀ (fs : List Field) (ls : List (List Leaf)) (xs : List (DataW H × List MemPlace)) (o : Nat), fs.mapM (fun f => layout P d f.type) = some ls → offsOk fs ls o = true → xs.length = fs.length →
      (∀ (i : Nat) (f : Field), fs[i]? = some f → DataW.trod enc P w base spare held n f.type ((cs.drop f.offset).take (P.cellsOf f.type)) = xs[i]?) → fitAllW ls.flatten ((cs.drop o).take ls.flatten.length) = true
  | [], ls, xs, o, h, _, _, _ => by
    simp at h
    subst h
    simp [fitAllW]
  | f :: fs, ls, xs, o, h, ho, hl, hx => by
    rw [List.mapM_cons] at h
    obtain ⟨l, h1, h2⟩ := Option.bind_eq_some_iff.1 h
    obtain ⟨ls', h3, h4⟩ := Option.bind_eq_some_iff.1 h2
    obtain rfl : l :: ls' = ls := by simpa using h4
    simp only [offsOk, Bool.and_eq_true, beq_iff_eq] at ho
    obtain ⟨⟨_, rfl⟩, ho⟩ := ho
    match xs, hl with
    | x :: xs, hl =>
      have hx0 := hx 0 f rfl
      simp only [List.getElem?_cons_zero] at hx0
      rw [layout_cells h1] at hx0
      have a1 := IH _ _ _ _ h1 hx0
      have a2 := fields_flat IH cs fs ls' xs (f.offset + l.length) h3 ho (by simpa using hl) (fun i g hg => by simpa using hx (i + 1) g (by simpa using hg))
      have e : (cs.drop f.offset).take (l :: ls').flatten.length = (cs.drop f.offset).take l.length ++ (cs.drop (f.offset + l.length)).take ls'.flatten.length := by
        rw [List.flatten_cons, List.length_append, List.take_add, List.drop_drop]
      rw [e, List.flatten_cons]
      exact fitAllW_append a1 a2
theorem items_flat {l : List Leaf} (cs : List Value) : ∀ (n o : Nat), (∀ i, i < n → fitAllW l ((cs.drop (o + i * l.length)).take l.length) = true) → fitAllW (List.replicate n l).flatten ((cs.drop o).take (List.replicate n l).flatten.length) = true
  | 0, _, _ => by simp [fitAllW]
  | n + 1, o, h => by
    have a1 := h 0 (by omega)
    have a2 := items_flat cs n (o + l.length) (fun i hi => by
      have := h (i + 1) (by omega)
      rwa [show o + (i + 1) * l.length = o + l.length + i * l.length by rw [Nat.add_mul]; omega] at this)
    simp only [Nat.zero_mul, Nat.add_zero] at a1
    have e : (cs.drop o).take (List.replicate (n + 1) l).flatten.length = (cs.drop o).take l.length ++ (cs.drop (o + l.length)).take (List.replicate n l).flatten.length := by
      rw [List.replicate_succ, List.flatten_cons, List.length_append, List.take_add, List.drop_drop]
    rw [e, List.replicate_succ, List.flatten_cons]
    exact fitAllW_append a1 a2
theorem flat_of_trod : ∀ (d n : Nat) (t : TypeId) (ls : List Leaf) (cs : List Value) (x : DataW H × List MemPlace), layout P d t = some ls → DataW.trod enc P w base spare held n t cs = some x → fitAllW ls cs = true
  | 0, _, _, _, _, _, h, _ => by simp [layout] at h
  | d + 1, n, t, ls, cs, x, h, ht => by
    have hcells := layout_cells h
    unfold layout at h
    split at h
    · rename_i hu
      split at h
      · obtain rfl : [Leaf.bool] = ls := by simpa using h
        cases n with
        | zero => simp [DataW.trod] at ht
        | succ n =>
          unfold DataW.trod at ht
          rw [hu] at ht
          split at ht <;> simp_all [fitAllW, Leaf.fitsW]
      · cases h
    · rename_i k hu
      split at h
      · obtain rfl : [Leaf.int k] = ls := by simpa using h
        obtain ⟨m, rfl, _, hw⟩ := DataW.trod_int hu ht
        simp [fitAllW, Leaf.fitsW, hw]
      · cases h
    · rename_i m e hu
      obtain ⟨l, h1, h2⟩ := Option.bind_eq_some_iff.1 h
      split at h2
      · obtain rfl : (List.replicate m l).flatten = ls := by simpa using h2
        obtain ⟨xs, n', rfl, rfl, hl, hlen, hx⟩ := DataW.trod_array hu ht
        rw [hcells] at hl
        have := items_flat (l := l) cs m 0 (fun i hi => by
          have h3 := hx i hi
          rw [layout_cells h1, List.getElem?_eq_getElem (by omega)] at h3
          rw [Nat.zero_add]
          exact flat_of_trod d n' e l _ _ h1 h3)
        rw [List.drop_zero, ← hl, List.take_length] at this
        exact this
      · cases h2
    · rename_i fs hu
      obtain ⟨ls', h1, h2⟩ := Option.bind_eq_some_iff.1 h
      split at h2
      · rename_i hc
        obtain rfl : ls'.flatten = ls := by simpa using h2
        simp only [Bool.and_eq_true] at hc
        obtain ⟨xs, n', rfl, rfl, hl, hlen, hx⟩ := DataW.trod_struct hu ht
        rw [hcells] at hl
        have := fields_flat (fun t ls cs x => flat_of_trod d n' t ls cs x) cs fs.toList ls' xs 0 h1 hc.1.2 (by simpa using hlen) (fun i f hf => by
          rw [hx i f (by simpa using hf)])
        rw [List.drop_zero, ← hl, List.take_length] at this
        exact this
      · cases h2
    · cases h
/-- A flat struct or array that came in: its cells. -/
theorem open_flat {r : Reach} {b0 : Nat} {t : TypeId} {v : Value} {dd : DataW H} {p : List MemPlace} (d : Nat) (ls : List Leaf) (hl : layout P d t = some ls) (ha : isAggB P t = true)
    (hv : Value.okWide P w r b0 t v) (h : DataW.Trod enc P w base spare held t v dd p) : ∃ cs : List Value, v = .agg cs.toArray ∧ fitAllW ls cs = true := by
  obtain ⟨fuel, hf⟩ := h
  have hcs : ∃ cs, v = .agg cs := by
    unfold isAggB at ha
    unfold Value.okWide at hv
    split at ha <;> simp_all
    · obtain ⟨cs, h, _⟩ := hv; exact ⟨cs, h⟩
    · obtain ⟨cs, h, _⟩ := hv; exact ⟨cs, h⟩
  obtain ⟨cs, rfl⟩ := hcs
  refine ⟨cs.toList, by simp, ?_⟩
  exact flat_of_trod d fuel t ls _ _ hl (by simpa [Value.cells] using hf)
end
end Go
end

section
namespace Go.Proofs.YtcibajleknhklaaDoor
theorem wf_i32 {n : Int} (h : (Lit.int .i32 n).wf = true) : -2147483648 ≤ n ∧ n ≤ 2147483647 := by
  simpa [Lit.wf, IntKind.min, IntKind.max, IntKind.signed, IntKind.bits] using h
end Go.Proofs.YtcibajleknhklaaDoor
end

section
section
namespace Go
open Go.RowKit
/-- What follows is shown of every world of which this is known. -/
theorem cut_world {P : Program} {c : Code} {Q : Exit → Act → World → Prop} {a : Act} {w : World} (F : World → Prop) (hF : F w) (h : ∀ W, F W → c.wp P Q a W) : c.wp P Q a w := h w hF
end Go
end
section
namespace Go
open Go.RowKit
/-- A block whose cells are all known. -/
theorem block_facts {w : World} {p : Nat} {cs : Array Value} {T : TypeId} (h : w.heap[p]? = some (.cells cs T (0, 0))) : (∀ i, w.cell? ⟨p, i, none⟩ = cs[i]?) ∧ (∀ i, w.frozen? ⟨p, i, none⟩ = false) ∧ p < w.heap.size :=
  ⟨fun i => by simp [World.cell?, h], fun i => by simp [World.frozen?, h], (Array.getElem?_eq_some_iff.1 h).1⟩
end Go
end
section
namespace Go
open Go.RowKit
theorem setCell_own (w : World) (K i : Nat) (cs : Array Value) (T : TypeId) (f : Nat × Nat) (v : Value) (h : w.heap[K]? = some (.cells cs T f)) : (w.setCell ⟨K, i, none⟩ v).heap[K]? = some (.cells (cs.setIfInBounds i v) T f) := by
  show (w.heap.modify K _)[K]? = _
  rw [Array.getElem?_modify, if_pos rfl, h]
  rfl
end Go
end
section
namespace Go
open Go.RowKit
theorem results_row_tmp {P : Program} {fn : Func} {p u : Tmp} {ty : TypeId} (h : fn.results = #[.cell p ty, .tmp u]) (tmps : Array Value) (w : World) (g : Nat) (t : TypeId) (cs : Array Value) (fr : Nat × Nat) (d : TypeDesc) (v : Value)
    (hp : tmps.getD p undef = .pointer (some ⟨g, 0, none⟩)) (hv : tmps.getD u undef = v) (hg : w.heap[g]? = some (.cells cs t fr))
    (hu : P.underlying ty = some d) (hd : (match d with | .struct _ | .array _ _ => true | _ => false) = true) (hi : (P.info? ty).map (·.size) = some cs.size) :
    (results fn tmps).run P w = .ok (.tuple #[.agg cs, v]) w := by
  rw [results_cell_tmp h, hp, hv]
  simp [asAddr, run_loadVar_row w g t ty cs fr d hg hu hd hi, Result.andThen]
end Go
end
section
namespace Go.Proofs.YtcibajleknhklaaDoor
open Go.RowKit Go.BigFrame Go.Proofs.YtcibajleknhklaaDoorW.PrintWords Go.Proofs.YtcibajleknhklaaDoorW.PrintLast Go.Proofs.YtcibajleknhklaaDoorW.PrintMore
set_option linter.unusedSimpArgs false
set_option linter.unusedVariables false
theorem append_src {P : Program} {ops : Array Oper} {rest : List Oper} {o : Oper} {a : Act} {Q : Exit → Act → World → Prop} {w : World} (hgd : o.guard = none) (s x : Operand) (t : TypeId)
    (ho : o.op = .call { callee := .builtin .append, args := #[s, x], argTypes := #[t, t] })
    (base : Nat) (e e' : TypeId) (z : Value) (size bytes : Nat) (ht : P.underlying t = some (.slice e)) (hi : (P.info? e).map (fun i => (i.zero, i.size, i.bytes)) = some (some z, size, bytes))
    (hzs : z.cells.size = size) (hsz : 0 < size)
    (v : Value) (n : Nat) (xs : List Value) (hs : a.eval s = v) (hown : w.ownsRow base e size v n xs)
    (q : Nat) (news : List Value) (hx : a.eval x = .slice (some ⟨q, 0, none⟩) 1 1) (hq : w.heap[q]? = some (.cells news.toArray e' (0, 0))) (hl : news.length = size) (h1 : ∀ u ∈ news, u.oneCell' = true)
    (h63 : n + 1 ≤ maxLen) (hbytes : (n + 1) * bytes ≤ 140737488355328) (hbase : base ≤ w.heap.size)
    (h : ∀ v' w', w'.ownsRow base e size v' (n + 1) (xs ++ news) → w.grownBy w' v.ownBlock → (v'.ownBlock = v.ownBlock ∨ v'.ownBlock = some w.heap.size) → wpList P ops Q rest (a.put o.dst v') w') :
    wpList P ops Q (o :: rest) a w := by
  obtain ⟨i0, hi0, hz0, hz1, hz2⟩ := info_parts hi
  refine wpList_append_own_at (w := w) hgd s x t ho base e i0 z size bytes ht hi0 hz0 hz1 hz2 hzs hsz v n xs hs hown ⟨q, 0, none⟩ 1 1 news hx (by omega) ?_ h1 h63 hbytes hbase (fun v' w' h2 h3 _ h5 => h v' w' h2 h3 h5)
  intro j u hj
  have : (⟨q, 0, none⟩ : Addr).add j = ⟨q, j, none⟩ := by unfold Addr.add; split <;> simp_all
  rw [this]
  unfold World.cell?
  rw [hq]
  simpa using hj
theorem own_lt' {w : World} {base : Nat} {e : TypeId} {size n : Nat} {v : Value} {xs : List Value} (h : w.ownsRow base e size v n xs) (k : Nat) (hk : v.ownBlock = some k) : base ≤ k ∧ k < w.heap.size := h.lt k hk
end Go.Proofs.YtcibajleknhklaaDoor
end
section
namespace Go.Proofs.YtcibajleknhklaaDoor
open Go.RowKit Go.BigFrame Go.Proofs.YtcibajleknhklaaDoorW.PrintWords Go.Proofs.YtcibajleknhklaaDoorW.PrintLast Go.Proofs.YtcibajleknhklaaDoorW.PrintMore
set_option linter.unusedSimpArgs false
set_option linter.unusedVariables false
theorem w64_id {x : Int} (h1 : -4611686018427387904 ≤ x) (h2 : x ≤ 4611686018427387904) : wrap64 x = x := by unfold wrap64; omega
theorem wn_sub {a b : Nat} (h : b ≤ a) (ha : a ≤ 1000) : wrap64 ((a : Int) - (b : Int)) = ((a - b : Nat) : Int) := by
  rw [w64_id (by omega) (by omega)]; omega
theorem wn_add {a b : Nat} (ha : a ≤ 1000) (hb : b ≤ 1000) : wrap64 ((a : Int) + (b : Int)) = ((a + b : Nat) : Int) := by
  rw [w64_id (by omega) (by omega)]; omega
theorem wn_add1 {a : Nat} (ha : a ≤ 1000) : wrap64 ((a : Int) + 1) = ((a + 1 : Nat) : Int) := wn_add (b := 1) ha (by decide)
theorem wn_sub1 {a : Nat} (ha : a ≤ 1000) : wrap64 ((a : Int) - 1) = (a : Int) - 1 := w64_id (by omega) (by omega)
theorem wn_sub1i {a i : Nat} (h : i < a) (ha : a ≤ 1000) : wrap64 ((a : Int) - 1 - (i : Int)) = ((a - 1 - i : Nat) : Int) := by
  rw [w64_id (by omega) (by omega)]; omega
theorem wn_div2 {a : Nat} (ha : a ≤ 1000) : wrap64 ((a : Int) / 2) = ((a / 2 : Nat) : Int) := by
  rw [w64_id (by omega) (by omega)]; omega
theorem wn_div4 {a : Nat} (ha : a ≤ 1000) : wrap64 ((a : Int) / 4) = ((a / 4 : Nat) : Int) := by
  rw [w64_id (by omega) (by omega)]; omega
theorem wn_tdiv2 {a : Nat} (ha : a ≤ 1000) : wrap64 (Int.tdiv (a : Int) 2) = ((a / 2 : Nat) : Int) := by
  rw [Int.tdiv_eq_ediv_of_nonneg (by omega), wn_div2 ha]
theorem rd_nat (l : List Int) (j : Nat) : rd l (j : Int) = l.getD j 0 := by unfold rd; rw [Int.toNat_natCast]
end Go.Proofs.YtcibajleknhklaaDoor
end
section
namespace Go.Proofs.YtcibajleknhklaaDoor
open Go.RowKit Go.BigFrame Go.Proofs.YtcibajleknhklaaDoorW.PrintWords Go.Proofs.YtcibajleknhklaaDoorW.PrintLast Go.Proofs.YtcibajleknhklaaDoorW.PrintMore
set_option linter.unusedSimpArgs false
set_option linter.unusedVariables false
theorem wr_small {x : Int} (h1 : -4611686018427387904 ≤ x) (h2 : x ≤ 4611686018427387904) : IntKind.i64.wrap x = x := (i64_w x).trans (w64_id h1 h2)
end Go.Proofs.YtcibajleknhklaaDoor
end
section
namespace Go.Proofs.YtcibajleknhklaaDoor
open Go.RowKit Go.BigFrame Go.Proofs.YtcibajleknhklaaDoorW.PrintWords Go.Proofs.YtcibajleknhklaaDoorW.PrintLast Go.Proofs.YtcibajleknhklaaDoorW.PrintMore
set_option linter.unusedSimpArgs false
set_option linter.unusedVariables false
/-- N whole numbers, each of its own kind. -/
def ag (k : Nat → IntKind) (N : Nat) (st : Nat → Int) : Array Value := ((List.range N).map fun i => Value.int (k i) (st i)).toArray
def updI (st : Nat → Int) (i : Nat) (x : Int) : Nat → Int := fun j => if j = i then x else st j
theorem ag_size (k : Nat → IntKind) (N : Nat) (st : Nat → Int) : (ag k N st).size = N := by simp [ag]
theorem ag_get (k : Nat → IntKind) (N : Nat) (st : Nat → Int) (i : Nat) (h : i < N) : (ag k N st)[i]? = some (.int (k i) (st i)) := by
  simp [ag, h]
theorem ag_set (k : Nat → IntKind) (N : Nat) (st : Nat → Int) (i : Nat) (h : i < N) (x : Int) : (ag k N st).setIfInBounds i (.int (k i) x) = ag k N (updI st i x) := by
  apply Array.ext
  · simp [ag]
  · intro j h1 h2
    have hj : j < N := by simpa [ag] using h2
    rw [Array.getElem_setIfInBounds (by simpa [ag] using hj)]
    unfold updI
    by_cases e : i = j
    · subst e; simp [ag]
    · rw [if_neg e]; simp [ag, Ne.symm e]
theorem ag_ext (k : Nat → IntKind) (N : Nat) (s t : Nat → Int) (h : ∀ i, i < N → s i = t i) : ag k N s = ag k N t := by
  unfold ag
  congr 1
  apply List.map_congr_left
  intro i hi
  rw [h i (by simpa using hi)]
end Go.Proofs.YtcibajleknhklaaDoor
end
section
namespace Go.Proofs.YtcibajleknhklaaDoor
open Go.RowKit Go.BigFrame Go.Proofs.YtcibajleknhklaaDoorW.PrintWords Go.Proofs.YtcibajleknhklaaDoorW.PrintLast Go.Proofs.YtcibajleknhklaaDoorW.PrintMore
set_option linter.unusedSimpArgs false
set_option linter.unusedVariables false
theorem below_cells {B g : Nat} {w wr : World} (h : Below B w wr) (hg : B ≤ g) (vs : List Value) : Below B w (wr.setCells g 0 vs) := by
  obtain ⟨h1, h2, h3, h4⟩ := setCells_same g vs 0 wr
  exact ⟨h1.trans h.os, h2.trans h.tape, h3.trans h.output, by rw [h4]; exact h.size, fun k hk => (setCells_far vs 0 k (by omega)).trans (h.block k hk)⟩
theorem cells_all {w : World} {g N : Nat} {e : TypeId} {old cs : Array Value} (h : w.heap[g]? = some (.cells old e (0, 0))) (h1 : old.size = N) (h2 : cs.size = N) : (w.setCells g 0 cs.toList).heap[g]? = some (.cells cs e (0, 0)) := by
  obtain ⟨cur, q1, q2, q3⟩ := setCells_row cs.toList 0 w old h (by rw [Array.length_toList]; omega)
  have : cur = cs := by
    apply Array.ext'
    rw [q3, List.take_zero, List.nil_append, List.drop_of_length_le (by rw [Array.length_toList, Array.length_toList]; omega), List.append_nil]
  rw [q1, this]
theorem ag_one (k : Nat → IntKind) (N : Nat) (st : Nat → Int) : (ag k N st).all (·.oneCell') = true := by
  rw [Array.all_eq_true]
  intro i hi
  simp [ag, Value.oneCell']
end Go.Proofs.YtcibajleknhklaaDoor
end
section
namespace Go.Proofs.YtcibajleknhklaaDoor
open Go.RowKit Go.BigFrame Go.Proofs.YtcibajleknhklaaDoorW.PrintWords Go.Proofs.YtcibajleknhklaaDoorW.PrintLast Go.Proofs.YtcibajleknhklaaDoorW.PrintMore
set_option linter.unusedSimpArgs false
set_option linter.unusedVariables false
/-- The kinds of a state's numbers, and of the document's. -/
def kS (i : Nat) : IntKind := if i < 10 then .i64 else if i < 140 then .i32 else if i = 140 then .u32 else .i64
def kP (i : Nat) : IntKind := if i = 140 then .u32 else .i64
/-- A store into a great value. -/
theorem ag_store {w : World} {b N : Nat} {e : TypeId} {k : Nat → IntKind} {f : Nat → Int} (h : w.heap[b]? = some (.cells (ag k N f) e (0, 0))) (i : Nat) (hi : i < N) (x : Int) :
    (w.setCell ⟨b, i, none⟩ (.int (k i) x)).heap[b]? = some (.cells (ag k N (updI f i x)) e (0, 0)) := by
  rw [setCell_own _ _ _ _ _ _ _ h, ag_set k N f i hi x]
theorem ag_cell {w : World} {b N : Nat} {e : TypeId} {k : Nat → IntKind} {f : Nat → Int} (h : w.heap[b]? = some (.cells (ag k N f) e (0, 0))) (i : Nat) (hi : i < N) :
    w.cell? ⟨b, i, none⟩ = some (.int (k i) (f i)) := by rw [(block_facts h).1 i, ag_get _ _ _ _ hi]
theorem build_to {P : Program} {ops : Array Oper} {rest : List Oper} {o : Oper} {a : Act} {w : World} {Q : Exit → Act → World → Prop} (hg : o.guard = none) (t : TypeId) (parts : Array (Nat × Operand)) (ho : o.op = .build t parts) (cells : Array Value)
    (hb : P.built t (parts.map fun (i, x) => (i, a.eval x)).toList = some cells)
    (h : wpList P ops Q rest (a.put o.dst (.agg cells)) w) : wpList P ops Q (o :: rest) a w :=
  wpList_build hg t parts ho (by rw [hb]; rfl) (by rw [hb]; exact h)
theorem there_row {w : World} {b : Nat} {e : TypeId} {old : Array Value} (h : w.heap[b]? = some (.cells old e (0, 0))) (n : Nat) (hn : n ≤ old.size) : w.there b 0 n := by
  intro j hj
  rw [Nat.zero_add]
  refine ⟨?_, (block_facts h).2.1 j⟩
  rw [(block_facts h).1 j, Array.getElem?_eq_getElem (by omega)]
  rfl
theorem alloc_two (w : World) (o p : Obj) : ((w.alloc o).alloc p).heap[w.heap.size]? = some o :=
  ((below_alloc (Below.refl _ _) _ : Below (w.alloc o).heap.size _ ((w.alloc o).alloc p)).block _ (by simp)).trans (alloc_at _ _)
theorem alloc_three (w : World) (o p q : Obj) : (((w.alloc o).alloc p).alloc q).heap[w.heap.size]? = some o :=
  ((below_alloc (Below.refl _ _) _ : Below ((w.alloc o).alloc p).heap.size _ (((w.alloc o).alloc p).alloc q)).block _ (by simp; omega)).trans (alloc_two _ _ _)
theorem alloc_third (w : World) (o p q : Obj) : (((w.alloc o).alloc p).alloc q).heap[w.heap.size + 1 + 1]? = some q := by
  have := alloc_at ((w.alloc o).alloc p) q
  rw [show ((w.alloc o).alloc p).heap.size = w.heap.size + 1 + 1 from by simp] at this
  exact this
theorem alloc_second (w : World) (o p q : Obj) : (((w.alloc o).alloc p).alloc q).heap[w.heap.size + 1]? = some p := by
  have := alloc_two (w.alloc o) p q
  rw [show (w.alloc o).heap.size = w.heap.size + 1 from by simp] at this
  exact this
end Go.Proofs.YtcibajleknhklaaDoor
end
section
namespace Go.Proofs.YtcibajleknhklaaDoor
open Go.RowKit Go.BigFrame Go.Proofs.YtcibajleknhklaaDoorW.PrintWords Go.Proofs.YtcibajleknhklaaDoorW.PrintLast Go.Proofs.YtcibajleknhklaaDoorW.PrintMore
set_option linter.unusedSimpArgs false
set_option linter.unusedVariables false
/-- One block has been written, no other one. -/
structure Only (B : Nat) (w w' : World) : Prop where
  os : w'.os = w.os
  tape : w'.tape = w.tape
  output : w'.output = w.output
  size : w'.heap.size = w.heap.size
  block : ∀ k, k ≠ B → w'.heap[k]? = w.heap[k]?
theorem Only.below {B C : Nat} {w0 w w' : World} (h : Only B w w') (hb : Below C w0 w) (hB : C ≤ B) : Below C w0 w' :=
  hb.trans ⟨h.os, h.tape, h.output, Nat.le_of_eq h.size.symm, fun k hk => h.block k (by omega)⟩
theorem Only.setCell {w w' : World} {p : Addr} (v : Value) (h : Only p.block w w') : Only p.block w (w'.setCell p v) :=
  ⟨h.os, h.tape, h.output, by rw [← h.size]; simp, fun k hk => (Below.heap_setCell w' p v k hk).trans (h.block k hk)⟩
theorem Only.refl (B : Nat) (w : World) : Only B w w := ⟨rfl, rfl, rfl, rfl, fun _ _ => rfl⟩
theorem Only.trans {B : Nat} {a b c : World} (h : Only B a b) (k : Only B b c) : Only B a c :=
  ⟨k.os.trans h.os, k.tape.trans h.tape, k.output.trans h.output, k.size.trans h.size, fun i hi => (k.block i hi).trans (h.block i hi)⟩
theorem only_setCell (w : World) (p : Addr) (v : Value) : Only p.block w (w.setCell p v) := (Only.refl _ w).setCell v
theorem only_setCells (w : World) (g o : Nat) (vs : List Value) : Only g w (w.setCells g o vs) := by
  obtain ⟨h1, h2, h3, h4⟩ := setCells_same g vs o w
  exact ⟨h1, h2, h3, h4, fun k hk => setCells_far vs o k hk⟩
theorem only_setRow (w : World) (g : Nat) (cs : Array Value) : Only g w (w.setRow g cs) :=
  ⟨rfl, rfl, rfl, by simp [World.setRow], fun k hk => setRow_other w g k cs hk⟩
theorem R_only {α : Type} {d : Kd α} {e base B : Nat} {w w1 : World} {v : Value} {xs : List α} (h : d.R e w base (fun _ => True) v xs) (ho : Only B w w1) (hB : B < base) : d.R e w1 base (fun _ => True) v xs :=
  Kd.R_mono (Kd.R_move (Kd.R_bound h) (fun k hk => ho.block k (by have := hk.2.1; omega))) (fun _ _ => trivial)
abbrev Bx (B : Nat) (T : TypeId) (k : Nat → IntKind) (N : Nat) (f : Nat → Int) (w : World) : Prop := w.heap[B]? = some (.cells (ag k N f) T (0, 0))
theorem Bx.keep {B T k N f} {w w' : World} (h : Bx B T k N f w) (hb : Below w.heap.size w w') : Bx B T k N f w' := (hb.block B (block_facts h).2.2).trans h
theorem Bx.only {B C T k N f} {w w' : World} (h : Bx B T k N f w) (ho : Only C w w') (hne : B ≠ C) : Bx B T k N f w' := (ho.block B hne).trans h
/-- Places from o on hold other numbers. -/
def overF (f : Nat → Int) (o : Nat) (xs : List Int) : Nat → Int := fun j => if o ≤ j ∧ j < o + xs.length then xs.getD (j - o) 0 else f j
theorem ag_toList (k : Nat → IntKind) (N : Nat) (f : Nat → Int) : (ag k N f).toList = (List.range N).map fun i => Value.int (k i) (f i) := by simp [ag]
theorem splice_ag (k : Nat → IntKind) (κ : IntKind) (N : Nat) (f : Nat → Int) (o : Nat) (xs : List Int) (hN : o + xs.length ≤ N) (hk : ∀ j, o ≤ j → j < o + xs.length → k j = κ) :
    (ag k N f).toList.take o ++ (xs.map (Value.int κ) ++ (ag k N f).toList.drop (o + (xs.map (Value.int κ)).length)) = (ag k N (overF f o xs)).toList := by
  rw [List.length_map]
  apply List.ext_getElem?
  intro j
  rw [ag_toList, ag_toList]
  by_cases h1 : j < o
  · rw [List.getElem?_append_left (by simp; omega), List.getElem?_take, if_pos h1]
    simp only [List.getElem?_map, List.getElem?_range (show j < N by omega), Option.map_some]
    rw [show overF f o xs j = f j from by unfold overF; rw [if_neg (by omega)]]
  · rw [List.getElem?_append_right (by simp; omega)]
    have hl : ((List.map (fun i => Value.int (k i) (f i)) (List.range N)).take o).length = o := by simp; omega
    rw [hl]
    by_cases h2 : j < o + xs.length
    · rw [List.getElem?_append_left (by simp; omega)]
      simp only [List.getElem?_map, List.getElem?_range (show j < N by omega), Option.map_some]
      rw [show overF f o xs j = xs.getD (j - o) 0 from by unfold overF; rw [if_pos (by omega)], hk j (by omega) h2, List.getD_eq_getElem?_getD, List.getElem?_eq_getElem (show j - o < xs.length by omega)]
      rfl
    · rw [List.getElem?_append_right (by simp; omega), List.getElem?_drop, List.length_map, show o + xs.length + (j - o - xs.length) = j from by omega]
      by_cases h3 : j < N
      · simp only [List.getElem?_map, List.getElem?_range h3, Option.map_some]
        rw [show overF f o xs j = f j from by unfold overF; rw [if_neg (by omega)]]
      · rw [List.getElem?_eq_none (by simp; omega), List.getElem?_eq_none (by simp; omega)]
theorem bx_setCells {B T k N f} {w : World} (h : Bx B T k N f w) (κ : IntKind) (o : Nat) (xs : List Int) (hN : o + xs.length ≤ N) (hk : ∀ j, o ≤ j → j < o + xs.length → k j = κ) :
    Bx B T k N (overF f o xs) (w.setCells B o (xs.map (Value.int κ))) := by
  obtain ⟨cur, h1, h2, h3⟩ := setCells_row (xs.map (Value.int κ)) o w _ h (by rw [ag_size, List.length_map]; exact hN)
  rw [List.append_assoc, splice_ag k κ N f o xs hN hk] at h3
  rw [Bx, h1, Array.ext' h3]
/-- A part of a block, as a row that is read. -/
theorem bx_reads {B T k N f} {w : World} (h : Bx B T k N f w) (κ : IntKind) (o n : Nat) (hN : o + n ≤ N) (hm : N ≤ 1000000) (hk : ∀ j, o ≤ j → j < o + n → k j = κ) :
    Kd.C (Kd.int κ) w (some ⟨B, o, none⟩) ((List.range n).map fun i => f (o + i)).length ((List.range n).map fun i => f (o + i)) := by
  refine ⟨rfl, by simp; omega, fun hn => ⟨_, rfl, fun j p hj => ⟨[.int κ p], rfl, rfl, fun i u hu => ?_⟩⟩⟩
  have hj' : j < n := by
    have := (List.getElem?_eq_some_iff.1 hj).1
    simpa using this
  simp only [List.getElem?_map, List.getElem?_range hj', Option.map_some, Option.some.injEq] at hj
  subst hj
  cases i with
  | zero =>
    obtain rfl : Value.int κ (f (o + j)) = u := by simpa using hu
    have e : (⟨B, o, none⟩ : Addr).add (j * (Kd.int κ).sz + 0) = ⟨B, o + j, none⟩ := by
      have : j * (Kd.int κ).sz + 0 = j := by show j * 1 + 0 = j; omega
      rw [this]; unfold Addr.add; split <;> simp_all
    rw [e, ag_cell h (o + j) (by omega), hk (o + j) (by omega) (by omega)]
  | succ i => simp at hu
section
variable {P : Program} {ops : Array Oper} {rest : List Oper} {o : Oper} {a : Act} {Q : Exit → Act → World → Prop}
/-- copy(block[off:off+dLen], row): a row of the call's own. -/
theorem copy_bx {w : World} (hgd : o.guard = none) (d s : Operand) (dT sT : TypeId) (ho : o.op = .call { callee := .builtin .copy, args := #[d, s], argTypes := #[dT, sT] })
    (elem : TypeId) (hu : P.underlying dT = some (.slice elem)) (hsz : (P.info? elem).map (·.size) = some 1) (B off dLen dCap sCap : Nat) (sp : Option Addr) (κ : IntKind) (xs : List Int)
    (hd : a.eval d = .slice (some ⟨B, off, none⟩) dLen dCap) (hs : a.eval s = .slice sp xs.length sCap) (hx : Kd.C (Kd.int κ) w sp xs.length xs) (hpos : 0 < xs.length) (hle : xs.length ≤ dLen)
    {T : TypeId} {k : Nat → IntKind} {N : Nat} {f : Nat → Int} (hB : Bx B T k N f w) (hN : off + xs.length ≤ N) (hk : ∀ j, off ≤ j → j < off + xs.length → k j = κ)
    (h : ∀ w', Only B w w' → Bx B T k N (overF f off xs) w' → wpList P ops Q rest (a.put o.dst (goInt xs.length)) w') : wpList P ops Q (o :: rest) a w := by
  obtain ⟨ad, rfl, hc⟩ := hx.2.2 hpos
  refine wpList_copy_own hgd d s dT sT ho elem hu hsz B off dLen dCap ad xs.length sCap hd hs (ag k N f) T hB (xs.map (Value.int κ)) (by rw [List.length_map]; exact (Nat.min_eq_left hle).symm) ?_ (by rw [List.length_map, ag_size]; exact hN) (fun v hv => by obtain ⟨x, _, rfl⟩ := List.mem_map.1 hv; rfl) ?_
  · intro j v hj
    obtain ⟨x, hx1, rfl⟩ := Option.map_eq_some_iff.1 ((List.getElem?_map ..).symm.trans hj)
    obtain ⟨c, h1, h2, h3⟩ := hc j x hx1
    have h2' : c = [Value.int κ x] := h2
    subst h2'
    have := h3 0 _ rfl
    have e : j * (Kd.int κ).sz + 0 = j := by show j * 1 + 0 = j; omega
    rw [e] at this
    exact this
  · rw [List.length_map]
    refine h _ (only_setRow _ _ _) ?_
    have e := splice_ag k κ N f off xs hN hk
    rw [List.length_map] at e
    rw [e]
    exact setRow_heap w B _ _ T _ hB
end
end Go.Proofs.YtcibajleknhklaaDoor
end
section
namespace Go.Proofs.YtcibajleknhklaaDoor
open Go.RowKit Go.BigFrame Go.Proofs.YtcibajleknhklaaDoorW.PrintWords Go.Proofs.YtcibajleknhklaaDoorW.PrintLast Go.Proofs.YtcibajleknhklaaDoorW.PrintMore
set_option linter.unusedSimpArgs false
set_option linter.unusedVariables false
theorem List.take_succ_eq_append_getElem' (X : List Int) (i : Nat) (h : i < X.length) : X.take (i + 1) = X.take i ++ [X.getD i 0] := by
  rw [List.take_succ_eq_append_getElem h, List.getD_eq_getElem?_getD, List.getElem?_eq_getElem h]; rfl
theorem R_lowT {α : Type} {d : Kd α} {e base base' : Nat} {w : World} {v : Value} {xs : List α} (h : d.R e w base (fun _ => True) v xs) (hb : base' ≤ base) : d.R e w base' (fun _ => True) v xs := Kd.R_lower h hb
def nOf (s : Int) : Nat := if s = 0 then 8 else if s = 1 then 16 else 32
def nbOf (s : Int) : Nat := (3 + s).toNat
end Go.Proofs.YtcibajleknhklaaDoor
end
section
namespace Go.Proofs.YtcibajleknhklaaDoor
open Go.RowKit Go.BigFrame Go.Proofs.YtcibajleknhklaaDoorW.PrintWords Go.Proofs.YtcibajleknhklaaDoorW.PrintLast Go.Proofs.YtcibajleknhklaaDoorW.PrintMore
set_option linter.unusedSimpArgs false
set_option linter.unusedVariables false
theorem alloc_secondOf (w : World) (o p : Obj) : ((w.alloc o).alloc p).heap[w.heap.size + 1]? = some p := by
  have := alloc_at (w.alloc o) p
  rw [show (w.alloc o).heap.size = w.heap.size + 1 from by simp] at this
  exact this
theorem bx_rangeK {B T k N f} {w : World} (h : Bx B T k N f w) (κ : IntKind) (o n : Nat) (hN : o + n ≤ N) (hk : ∀ j, o ≤ j → j < o + n → k j = κ) : w.rangeAt B o (ag (fun _ => κ) n (fun i => f (o + i))).toList := by
  intro j v hj
  rw [ag_toList] at hj
  have hj' : j < n := by
    have := (List.getElem?_eq_some_iff.1 hj).1
    simpa using this
  simp only [List.getElem?_map, List.getElem?_range hj', Option.map_some, Option.some.injEq] at hj
  subst hj
  rw [ag_cell h (o + j) (by omega), hk (o + j) (by omega) (by omega)]
end Go.Proofs.YtcibajleknhklaaDoor
end
section
namespace Go.Proofs.YtcibajleknhklaaDoor
open Go.RowKit Go.BigFrame Go.Proofs.YtcibajleknhklaaDoorW.PrintWords Go.Proofs.YtcibajleknhklaaDoorW.PrintLast Go.Proofs.YtcibajleknhklaaDoorW.PrintMore
set_option linter.unusedSimpArgs false
set_option linter.unusedVariables false
/-- A flat value that came in, as a function of the place. -/
theorem ag_of_fit (k : Nat → IntKind) (N : Nat) (cs : List Value) (h : fitAllW ((List.range N).map fun i => Leaf.int (k i)) cs = true) : ∃ st : Nat → Int, cs.toArray = ag k N st ∧ ∀ i, i < N → (Lit.int (k i) (st i)).wf = true := by
  have hl : cs.length = N := by have := fitAllW_length h; simpa using this
  have hat : ∀ i, i < N → ∃ n, cs[i]? = some (.int (k i) n) ∧ (Lit.int (k i) n).wf = true := fun i hi => fitAllW_at i (k i) h (by simp [hi])
  refine ⟨fun i => match cs[i]? with | some (.int _ n) => n | _ => 0, ?_, ?_⟩
  · apply Array.ext
    · simp [ag_size, hl]
    · intro i h1 h2
      have hi : i < N := by simpa [ag_size] using h2
      obtain ⟨n, hn, _⟩ := hat i hi
      have e1 : cs.toArray[i]? = some (.int (k i) n) := by simpa using hn
      have e2 := ag_get k N (fun i => match cs[i]? with | some (.int _ n) => n | _ => 0) i hi
      simp only [hn] at e2
      rw [Array.getElem?_eq_getElem h1] at e1
      rw [Array.getElem?_eq_getElem h2] at e2
      rw [Option.some.inj e1, Option.some.inj e2]
  · intro i hi
    obtain ⟨n, hn, hw⟩ := hat i hi
    simp only [hn]
    exact hw
theorem fitAll_ag (k : Nat → IntKind) (f : Nat → Int) : ∀ l : List Nat, fitAll (l.map fun i => Leaf.int (k i)) (l.map fun i => Value.int (k i) (f i)) = true
  | [] => rfl
  | i :: l => by
    simp only [List.map_cons, fitAll, Bool.and_eq_true]
    exact ⟨by simp [Leaf.fits], fitAll_ag k f l⟩
end Go.Proofs.YtcibajleknhklaaDoor
end
section
namespace Go
open Go.RowKit
theorem load_row_g {P : Program} {ops : Array Oper} {rest : List Oper} {o : Oper} {a : Act} {w : World} {Q : Exit → Act → World → Prop} (hw : Region.wanted o (yielded ops a.tmps) = true) (ty : TypeId) (x : Operand) (ho : o.op = .load ty x)
    (g : Nat) (hx : a.eval x = .pointer (some ⟨g, 0, none⟩)) (t : TypeId) (cs : Array Value) (fr : Nat × Nat) (d : TypeDesc) (hg : w.heap[g]? = some (.cells cs t fr))
    (hu : P.underlying ty = some d) (hd : (match d with | .struct _ | .array _ _ => true | _ => false) = true) (hi : (P.info? ty).map (·.size) = some cs.size)
    (h : wpList P ops Q rest (a.put o.dst (.agg cs)) w) : wpList P ops Q (o :: rest) a w := by
  unfold wpList
  rw [if_pos hw]
  exact .inl (wp_load_row ty x ho g hx t cs fr d hg hu hd hi h)
theorem load_mid_g {P : Program} {ops : Array Oper} {rest : List Oper} {o : Oper} {a : Act} {w : World} {Q : Exit → Act → World → Prop} (hw : Region.wanted o (yielded ops a.tmps) = true) (ty : TypeId) (x : Operand) (ho : o.op = .load ty x)
    (b f : Nat) (hx : a.eval x = .pointer (some ⟨b, f, none⟩)) (cs : List Value) (d : TypeDesc) (hc : w.rangeAt b f cs)
    (hu : P.underlying ty = some d) (hd : d.isRow = true) (hi : (P.info? ty).map (·.size) = some cs.length)
    (h : wpList P ops Q rest (a.put o.dst (.agg cs.toArray)) w) : wpList P ops Q (o :: rest) a w := by
  unfold wpList
  rw [if_pos hw]
  exact .inl (wp_load_mid ty x ho b f hx cs d hc hu hd hi h)
end Go
end
end

section
namespace Go.Proofs.YtcibajleknhklaaDoor
open Go.RowKit Go.Proofs.YtcibajleknhklaaDoorW.PrintWords Go.Proofs.YtcibajleknhklaaDoorW.PrintMore
open PStateTells RStateTells
/-- A number within the history's bounds. -/
def hd (x : Int) : Int := max (min x 16777216) (-16777216)
theorem hd_bd (x : Int) : -16777216 ≤ hd x ∧ hd x ≤ 16777216 := by unfold hd; omega
theorem held_eq (x : Int) : conceal_held.f x = some (hd x) := by
  unfold conceal_held.f mn mx hd
  congr 1
  split <;> split <;> omega
theorem mul_bd {a b : Int} (ha : -16777216 ≤ a ∧ a ≤ 16777216) (hb : -16777216 ≤ b ∧ b ≤ 16777216) : -281474976710656 ≤ a * b ∧ a * b ≤ 281474976710656 := by
  have h1 : a.natAbs ≤ 16777216 := by omega
  have h2 : b.natAbs ≤ 16777216 := by omega
  have h3 : (a * b).natAbs ≤ 16777216 * 16777216 := by rw [Int.natAbs_mul]; exact Nat.mul_le_mul h1 h2
  omega
/-- How much a history is like itself p numbers ahead. -/
def dot (l : List Int) (p : Nat) : Nat → Int
  | 0 => 0
  | i + 1 => dot l p i + hd (l.getD (l.length - 1 - i) 0) * hd (l.getD (l.length - 1 - i - p) 0)
theorem dot_bd (l : List Int) (p : Nat) : ∀ i : Nat, -(281474976710656 * (i : Int)) ≤ dot l p i ∧ dot l p i ≤ 281474976710656 * (i : Int)
  | 0 => by simp [dot]
  | i + 1 => by
    have h := dot_bd l p i
    have h2 := mul_bd (hd_bd (l.getD (l.length - 1 - i) 0)) (hd_bd (l.getD (l.length - 1 - i - p) 0))
    simp only [dot]
    push_cast
    omega
theorem dot_small (l : List Int) (p i : Nat) (hi : i ≤ 32) : -9007199254740992 ≤ dot l p i ∧ dot l p i ≤ 9007199254740992 := by
  have h := dot_bd l p i
  omega
theorem dot_step (l : List Int) (p i : Nat) (hi : i ≤ 16) : wrap64 (dot l p i + wrap64 (hd (l.getD (l.length - 1 - i) 0) * hd (l.getD (l.length - 1 - i - p) 0))) = dot l p (i + 1) := by
  have hb := mul_bd (hd_bd (l.getD (l.length - 1 - i) 0)) (hd_bd (l.getD (l.length - 1 - i - p) 0))
  have h1 := dot_small l p i (by omega)
  simp only [dot]
  generalize hd (l.getD (l.length - 1 - i) 0) * hd (l.getD (l.length - 1 - i - p) 0) = q at hb ⊢
  generalize dot l p i = z at h1 ⊢
  rw [w64_id (x := q) (by omega) (by omega), w64_id (by omega) (by omega)]
theorem alike_l0 (l : List Int) (p m : Nat) (hn : l.length ≤ 32) (hm : 2 * m ≤ l.length) (hp : p ≤ m) : ∀ (d k i : Nat), i + d = m → d < k →
    conceal_alike.l0 k l p (dot l p i) ((l.length : Int) - 1) m i = some (dot l p m)
  | 0, k, i, hi, hk => by
    obtain ⟨k, rfl⟩ : ∃ q, k = q + 1 := ⟨k - 1, by omega⟩
    obtain rfl : i = m := by omega
    simp only [conceal_alike.l0]
    rw [if_neg (by omega)]
  | d + 1, k, i, hi, hk => by
    obtain ⟨k, rfl⟩ : ∃ q, k = q + 1 := ⟨k - 1, by omega⟩
    have him : i < m := by omega
    have e1 : Aside0 (wrap64 ((l.length : Int) - 1 - (i : Int)) = ((l.length - 1 - i : Nat) : Int)) := ⟨wn_sub1i (by omega) (by omega)⟩
    have e2 : Aside0 (wrap64 (((l.length - 1 - i : Nat) : Int) - (p : Int)) = ((l.length - 1 - i - p : Nat) : Int)) := ⟨wn_sub (by omega) (by omega)⟩
    have e3 : Aside0 (wrap64 ((i : Int) + 1) = ((i + 1 : Nat) : Int)) := ⟨wn_add1 (by omega)⟩
    have e4 : Aside0 (wrap64 (dot l p i + wrap64 (hd (l.getD (l.length - 1 - i) 0) * hd (l.getD (l.length - 1 - i - p) 0))) = dot l p (i + 1)) := ⟨dot_step l p i (by omega)⟩
    simp only [conceal_alike.l0]
    rw [if_pos (by omega), e1.out, if_pos (by omega), if_pos (by omega), rd_nat, held_eq]
    simp only [Option.bind_some]
    rw [e2.out, if_pos (by omega), if_pos (by omega), rd_nat, held_eq]
    simp only [Option.bind_some]
    rw [e3.out, e4.out]
    exact alike_l0 l p m hn hm hp d k (i + 1) (by omega) (by omega)
theorem alike_f (l : List Int) (p k : Nat) (hn : l.length ≤ 32) (hp : p ≤ l.length / 2) (hk : 20 ≤ k) : conceal_alike.f k l p = some (dot l p (l.length / 2)) := by
  unfold conceal_alike.f
  by_cases h0 : l.length = 0
  · obtain ⟨k, rfl⟩ : ∃ q, k = q + 1 := ⟨k - 1, by omega⟩
    rw [h0]
    simp only [conceal_alike.l0]
    rw [if_neg (by unfold wrap64; omega)]
    rfl
  · have e1 : wrap64 ((l.length : Int) - 1) = (l.length : Int) - 1 := wn_sub1 (by omega)
    have e2 : Aside0 (wrap64 ((l.length : Int) / 2) = ((l.length / 2 : Nat) : Int)) := ⟨wn_div2 (by omega)⟩
    rw [e1, e2.out]
    exact alike_l0 l p (l.length / 2) hn (by omega) hp (l.length / 2) k 0 (by omega) (by omega)
/-- The lag, and how much the history is like itself there, of the first ones. -/
def lagTo (l : List Int) : Nat → Nat × Int
  | 0 => (l.length / 4, dot l (l.length / 4) (l.length / 2))
  | c + 1 => if (lagTo l c).2 < dot l (l.length / 4 + c + 1) (l.length / 2) then (l.length / 4 + c + 1, dot l (l.length / 4 + c + 1) (l.length / 2)) else lagTo l c
def lagF (l : List Int) : Nat := (lagTo l (l.length / 2 - l.length / 4)).1
theorem lagTo_bd (l : List Int) : ∀ c, l.length / 4 ≤ (lagTo l c).1 ∧ (lagTo l c).1 ≤ l.length / 4 + c
  | 0 => by simp [lagTo]
  | c + 1 => by
    have h := lagTo_bd l c
    simp only [lagTo]
    split
    · simp only; omega
    · omega
def Len (n : Nat) : Prop := n = 8 ∨ n = 16 ∨ n = 32
theorem lag_bd (l : List Int) (hn : Len l.length) : 2 ≤ lagF l ∧ lagF l ≤ l.length / 2 := by
  have h := lagTo_bd l (l.length / 2 - l.length / 4)
  unfold lagF
  unfold Len at hn
  omega
theorem lag_l0 (l : List Int) (hn : Len l.length) : ∀ (d k c : Nat), c + d = l.length / 2 - l.length / 4 → d + 25 < k →
    conceal_Lag.l0 k l (l.length : Int) (lagTo l c).1 (lagTo l c).2 ((l.length / 4 + c + 1 : Nat) : Int) = some ((lagF l : Nat) : Int)
  | 0, k, c, hc, hk => by
    obtain ⟨k, rfl⟩ : ∃ q, k = q + 1 := ⟨k - 1, by omega⟩
    unfold Len at hn
    have e1 : Aside0 (wrap64 (Int.tdiv (l.length : Int) 2) = ((l.length / 2 : Nat) : Int)) := ⟨wn_tdiv2 (by omega)⟩
    simp only [conceal_Lag.l0]
    rw [e1.out, if_neg (by omega)]
    unfold lagF
    rw [← hc, Nat.add_zero]
  | d + 1, k, c, hc, hk => by
    obtain ⟨k, rfl⟩ : ∃ q, k = q + 1 := ⟨k - 1, by omega⟩
    have hn' := hn
    unfold Len at hn'
    have e1 : Aside0 (wrap64 (Int.tdiv (l.length : Int) 2) = ((l.length / 2 : Nat) : Int)) := ⟨wn_tdiv2 (by omega)⟩
    have e2 : Aside0 (wrap64 (((l.length / 4 + c + 1 : Nat) : Int) + 1) = ((l.length / 4 + (c + 1) + 1 : Nat) : Int)) := ⟨wn_add1 (by omega)⟩
    have ih := lag_l0 l hn d k (c + 1) (by omega) (by omega)
    simp only [conceal_Lag.l0]
    rw [e1.out, if_pos (by omega), alike_f l _ k (by omega) (by omega) (by omega)]
    simp only [Option.bind_some]
    rw [e2.out]
    by_cases h : (lagTo l c).2 < dot l (l.length / 4 + c + 1) (l.length / 2)
    · rw [if_pos h]
      simp only [lagTo, if_pos h] at ih
      exact ih
    · rw [if_neg h]
      simp only [lagTo, if_neg h] at ih
      exact ih
theorem there_len (n : Nat) (h : Len n) : conceal_there.f n = some true := by
  unfold Len at h
  rcases h with rfl | rfl | rfl <;> decide +kernel
theorem lag_f (l : List Int) (hn : Len l.length) (k : Nat) (hk : 60 ≤ k) : conceal_Lag.f k l = some ((lagF l : Nat) : Int) := by
  have hn' := hn
  unfold Len at hn'
  unfold conceal_Lag.f
  rw [there_len _ hn]
  simp only [Option.bind_some, if_true]
  have e1 : Aside0 (wrap64 ((l.length : Int) / 4) = ((l.length / 4 : Nat) : Int)) := ⟨wn_div4 (by omega)⟩
  have e2 : Aside0 (wrap64 (((l.length / 4 : Nat) : Int) + 1) = ((l.length / 4 + 0 + 1 : Nat) : Int)) := ⟨wn_add1 (by omega)⟩
  rw [e1.out, alike_f l _ k (by omega) (by omega) (by omega)]
  simp only [Option.bind_some]
  rw [e2.out]
  exact lag_l0 l hn (l.length / 2 - l.length / 4) k 0 (by omega) (by omega)
/-- How much of a loss is heard. -/
def fadeF (n : Int) : Int := if n = 1 then 29491 else if n = 2 then 22937 else if n = 3 then 13107 else if n = 4 then 4915 else 0
theorem fadeF_bd (n : Int) : 0 ≤ fadeF n ∧ fadeF n ≤ 29491 := by unfold fadeF; split <;> (try split) <;> (try split) <;> (try split) <;> omega
/-- One number that is made up. -/
def madeAt (l : List Int) (loss : Int) (i : Nat) : Int := (hd (l.getD (l.length - lagF l + i % lagF l) 0) * fadeF loss).tdiv 32768
def madeF (l : List Int) (loss : Int) : List Int := (List.range l.length).map (madeAt l loss)
theorem tdiv_bd {a b : Int} (ha : -16777216 ≤ a ∧ a ≤ 16777216) (hb : 0 ≤ b ∧ b ≤ 29491) : (-494780232499 - 1 ≤ a * b ∧ a * b ≤ 494780232499) ∧ -16777216 ≤ (a * b).tdiv 32768 ∧ (a * b).tdiv 32768 ≤ 16777216 := by
  have h1 : a.natAbs ≤ 16777216 := by omega
  have h2 : b.natAbs ≤ 29491 := by omega
  have h3 : (a * b).natAbs ≤ 16777216 * 29491 := by rw [Int.natAbs_mul]; exact Nat.mul_le_mul h1 h2
  have h4 : ((a * b).tdiv 32768).natAbs = (a * b).natAbs / 32768 := by rw [Int.natAbs_tdiv]; rfl
  omega
theorem madeAt_bd (l : List Int) (loss : Int) (i : Nat) : -16777216 ≤ madeAt l loss i ∧ madeAt l loss i ≤ 16777216 := (tdiv_bd (hd_bd _) (fadeF_bd loss)).2
theorem part_eq (x : Int) (n : Int) : conceal_part.f x (fadeF n) = some ((hd x * fadeF n).tdiv 32768) := by
  unfold conceal_part.f
  rw [held_eq]
  simp only [Option.bind_some]
  have hf := fadeF_bd n
  obtain ⟨h1, h2⟩ := tdiv_bd (hd_bd x) hf
  rw [w64_id (x := fadeF n) (by omega) (by omega), w64_id (x := hd x * fadeF n) (by omega) (by omega)]
  clear h1
  generalize (hd x * fadeF n).tdiv 32768 = q at h2 ⊢
  congr 1
  unfold wrap32 wrap64
  omega
end Go.Proofs.YtcibajleknhklaaDoor
end

section
namespace Go.Proofs.YtcibajleknhklaaDoor
open Go.RowKit Go.BigFrame
open PStateTells RStateTells
set_option linter.unusedSimpArgs false
set_option linter.unusedVariables false
def sat24 (x : Int) : Int := min (max x (-8388608)) 8388607
def sat28 (x : Int) : Int := min (max x (-134217728)) 134217727
theorem fixSat24 (x : Int) (w : World) : Calls Tryd.prog 94 #[.int .i64 x, .int .i64 24] w fun e w' => e = .returned (.int .i64 (sat24 x)) ∧ Below w.heap.size w w' := by
  have e0 : min (max (24 : Int) 1) 63 = 24 := by decide
  have e1 : wrap64 (2 ^ 23) = 8388608 := by decide +kernel
  have e2 : bits .xor .i64 (-1) 8388607 = -8388608 := by decide +kernel
  go_enter Tryd.func94, Tryd.ntmps94
  go_wp2
  go_ret
  exact ⟨by rfl, by (repeat' (first | (with_reducible exact Below.refl _ _) | (with_reducible assumption) | (with_reducible refine Below.alloc ?_ ?_ _) | (with_reducible refine below_grew ?_ ?_ _) | (with_reducible refine Below.setCell ?_ ?_ _) | (with_reducible refine Below.drew ?_) | (with_reducible refine below_drewN ?_ _) | omega | (simp; done) | (simp; omega)))⟩
theorem fixSat28 (x : Int) (w : World) : Calls Tryd.prog 94 #[.int .i64 x, .int .i64 28] w fun e w' => e = .returned (.int .i64 (sat28 x)) ∧ Below w.heap.size w w' := by
  have e0 : min (max (28 : Int) 1) 63 = 28 := by decide
  have e1 : wrap64 (2 ^ 27) = 134217728 := by decide +kernel
  have e2 : bits .xor .i64 (-1) 134217727 = -134217728 := by decide +kernel
  go_enter Tryd.func94, Tryd.ntmps94
  go_wp2
  go_ret
  exact ⟨by rfl, by (repeat' (first | (with_reducible exact Below.refl _ _) | (with_reducible assumption) | (with_reducible refine Below.alloc ?_ ?_ _) | (with_reducible refine below_grew ?_ ?_ _) | (with_reducible refine Below.setCell ?_ ?_ _) | (with_reducible refine Below.drew ?_) | (with_reducible refine below_drewN ?_ _) | omega | (simp; done) | (simp; omega)))⟩
theorem refSat24 (x : Int) : spinetref01_Sat.f 40 x 24 = some (sat24 x) := by
  unfold spinetref01_Sat.f
  rw [show spinetref01_Bits.f 24 1 63 = some 24 from by decide +kernel]
  simp only [Option.bind_some]
  rw [show spinetref01_Pow.f 40 (wrap64 (24 - 1)) = some 8388608 from by decide +kernel]
  simp only [Option.bind_some]
  rw [show wrap64 (-8388608) = -8388608 from by decide +kernel, show wrap64 (8388608 - 1) = 8388607 from by decide +kernel]
  unfold spinetref01_Held.f sat24
  split
  · simp; omega
  · split
    · simp; omega
    · simp; omega
theorem refSat28 (x : Int) : spinetref01_Sat.f 40 x 28 = some (sat28 x) := by
  unfold spinetref01_Sat.f
  rw [show spinetref01_Bits.f 28 1 63 = some 28 from by decide +kernel]
  simp only [Option.bind_some]
  rw [show spinetref01_Pow.f 40 (wrap64 (28 - 1)) = some 134217728 from by decide +kernel]
  simp only [Option.bind_some]
  rw [show wrap64 (-134217728) = -134217728 from by decide +kernel, show wrap64 (134217728 - 1) = 134217727 from by decide +kernel]
  unfold spinetref01_Held.f sat28
  split
  · simp; omega
  · split
    · simp; omega
    · simp; omega
/-- What a mode has, struck out. -/
def wo (n nb c : Nat) (st : Nat → Int) : Nat → Int := fun j =>
  if 140 ≤ j then 0
  else if 138 ≤ j then (if j < 138 + c then 0 else st j)
  else if 74 ≤ j then (if (j - 74) / 32 < c ∧ (j - 74) % 32 < n then 0 else st j)
  else if 10 ≤ j then (if (j - 10) / 32 < c ∧ (j - 10) % 32 < n then 0 else st j)
  else (if j / 5 < c ∧ j % 5 < nb then 0 else st j)
def okE (x : Int) : Prop := 0 ≤ x ∧ x ≤ 31
/-- A channel is right, by the code. -/
def ChOk (st : Nat → Int) (ch : Nat) : Prop := (∀ b, b < 5 → okE (st (ch * 5 + b))) ∧ (∀ i, i < 32 → sat24 (st (74 + ch * 32 + i)) = st (74 + ch * 32 + i)) ∧ sat28 (st (138 + ch)) = st (138 + ch)
def StOk (n nb c : Nat) (st : Nat → Int) : Prop := (∀ j, j < 142 → wo n nb c st j = 0) ∧ (0 ≤ st 141 ∧ st 141 ≤ 1000) ∧ ∀ ch, ch < c → ChOk st ch
/-- A channel is right, by the document. -/
def RChOk (n nb c : Nat) (st : Nat → Int) (ch : Nat) : Prop := (∀ b, b < 5 → okE (st (ch * 5 + b)) ∧ (c ≤ ch ∨ nb ≤ b → st (ch * 5 + b) = 0)) ∧
  (∀ i, i < 32 → sat24 (st (74 + ch * 32 + i)) = st (74 + ch * 32 + i) ∧ (c ≤ ch ∨ n ≤ i → st (74 + ch * 32 + i) = 0 ∧ st (10 + ch * 32 + i) = 0)) ∧ (sat28 (st (138 + ch)) = st (138 + ch) ∧ (c ≤ ch → st (138 + ch) = 0))
def RStOk (n nb c : Nat) (st : Nat → Int) : Prop := (0 ≤ st 141 ∧ st 141 ≤ 1000) ∧ ∀ ch, ch < 2 → RChOk n nb c st ch
theorem wo_E {n nb c : Nat} {st : Nat → Int} {ch b : Nat} (hc : ch < 2) (hb : b < 5) (h : c ≤ ch ∨ nb ≤ b) : wo n nb c st (ch * 5 + b) = st (ch * 5 + b) := by
  unfold wo; rw [if_neg (by omega), if_neg (by omega), if_neg (by omega), if_neg (by omega), if_neg (by omega)]
theorem wo_H {n nb c : Nat} {st : Nat → Int} {ch i : Nat} (hc : ch < 2) (hi : i < 32) (h : c ≤ ch ∨ n ≤ i) : wo n nb c st (74 + ch * 32 + i) = st (74 + ch * 32 + i) := by
  unfold wo; rw [if_neg (by omega), if_neg (by omega), if_pos (by omega), if_neg (by omega)]
theorem wo_T {n nb c : Nat} {st : Nat → Int} {ch i : Nat} (hc : ch < 2) (hi : i < 32) (h : c ≤ ch ∨ n ≤ i) : wo n nb c st (10 + ch * 32 + i) = st (10 + ch * 32 + i) := by
  unfold wo; rw [if_neg (by omega), if_neg (by omega), if_neg (by omega), if_pos (by omega), if_neg (by omega)]
theorem wo_M {n nb c : Nat} {st : Nat → Int} {ch : Nat} (hc : ch < 2) (h : c ≤ ch) : wo n nb c st (138 + ch) = st (138 + ch) := by
  unfold wo; rw [if_neg (by omega), if_pos (by omega), if_neg (by omega)]
theorem okE_zero : okE 0 := by unfold okE; omega
theorem StOk_iff (n nb c : Nat) (st : Nat → Int) (hc : c ≤ 2) : StOk n nb c st ↔ RStOk n nb c st := by
  constructor
  · rintro ⟨h1, h2, h3⟩
    refine ⟨h2, fun ch hch => ?_⟩
    have e0 : ∀ b, b < 5 → (c ≤ ch ∨ nb ≤ b) → st (ch * 5 + b) = 0 := fun b hb h => (wo_E (n := n) hch hb h).symm.trans (h1 _ (by omega))
    have e1 : ∀ i, i < 32 → (c ≤ ch ∨ n ≤ i) → st (74 + ch * 32 + i) = 0 := fun b hb h => (wo_H (nb := nb) hch hb h).symm.trans (h1 _ (by omega))
    have e2 : ∀ i, i < 32 → (c ≤ ch ∨ n ≤ i) → st (10 + ch * 32 + i) = 0 := fun b hb h => (wo_T (nb := nb) hch hb h).symm.trans (h1 _ (by omega))
    have e3 : c ≤ ch → st (138 + ch) = 0 := fun h => (wo_M (n := n) (nb := nb) hch h).symm.trans (h1 _ (by omega))
    by_cases hlt : ch < c
    · obtain ⟨a, b, d⟩ := h3 ch hlt
      exact ⟨fun b' hb => ⟨a b' hb, e0 b' hb⟩, fun i hi => ⟨b i hi, fun h => ⟨e1 i hi h, e2 i hi h⟩⟩, d, e3⟩
    · exact ⟨fun b hb => ⟨by rw [e0 b hb (by omega)]; exact okE_zero, e0 b hb⟩, fun i hi => ⟨by rw [e1 i hi (by omega)]; decide, fun h => ⟨e1 i hi h, e2 i hi h⟩⟩, by rw [e3 (by omega)]; decide, e3⟩
  · rintro ⟨h2, h3⟩
    refine ⟨fun j hj => ?_, h2, fun ch hch => ⟨fun b hb => ((h3 ch (by omega)).1 b hb).1, fun i hi => ((h3 ch (by omega)).2.1 i hi).1, (h3 ch (by omega)).2.2.1⟩⟩
    unfold wo
    split
    · rfl
    · split
      · split
        · rfl
        · have := (h3 (j - 138) (by omega)).2.2.2 (by omega)
          rwa [show 138 + (j - 138) = j from by omega] at this
      · split
        · split
          · rfl
          · have := (((h3 ((j - 74) / 32) (by omega)).2.1 ((j - 74) % 32) (by omega)).2 (by omega)).1
            rwa [show 74 + (j - 74) / 32 * 32 + (j - 74) % 32 = j from by omega] at this
        · split
          · split
            · rfl
            · have := (((h3 ((j - 10) / 32) (by omega)).2.1 ((j - 10) % 32) (by omega)).2 (by omega)).2
              rwa [show 10 + (j - 10) / 32 * 32 + (j - 10) % 32 = j from by omega] at this
          · split
            · rfl
            · have := ((h3 (j / 5) (by omega)).1 (j % 5) (by omega)).2 (by omega)
              rwa [show j / 5 * 5 + j % 5 = j from by omega] at this
end Go.Proofs.YtcibajleknhklaaDoor
end

section
namespace Go.Proofs.YtcibajleknhklaaDoor
open Go.RowKit
/-- A channel's history. -/
def histL (st : Nat → Int) (n c : Nat) : List Int := (List.range n).map fun i => st (74 + c * 32 + i)
theorem histL_len (st : Nat → Int) (n c : Nat) : (histL st n c).length = n := by simp [histL]
/-- One channel of it. -/
def loseC (n nb : Nat) (loss : Int) (c : Nat) (st : Nat → Int) : Nat → Int := fun j =>
  if 10 + c * 32 ≤ j ∧ j < 10 + c * 32 + n then 0
  else if 74 + c * 32 ≤ j ∧ j < 74 + c * 32 + n then madeAt (histL st n c) loss (j - (74 + c * 32))
  else if j = 138 + c then 0
  else if c * 5 ≤ j ∧ j < c * 5 + nb then max (st j) 2 - 2
  else st j
def lossOf (st : Nat → Int) : Int := min (max (st 141) 0) 1000 + 1
/-- So many channels of it, and the sound of each. -/
def loseTo (n nb : Nat) (loss : Int) (st : Nat → Int) : Nat → (Nat → Int)
  | 0 => st
  | c + 1 => loseC n nb loss c (loseTo n nb loss st c)
def sat16 (x : Int) : Int := max (min x 32767) (-32768)
def soundC (st : Nat → Int) (n c : Nat) (loss : Int) : List Int := (madeF (histL st n c) loss).map sat16
theorem madeF_len (l : List Int) (loss : Int) : (madeF l loss).length = l.length := by simp [madeF]
/-- A channel's history is not touched ahead of its turn. -/
theorem loseC_hist (n nb c d : Nat) (loss : Int) (st : Nat → Int) (hn : n ≤ 32) (hb : nb ≤ 5) (hc : c < 2) (hd : d < 2) (h : c ≠ d) : histL (loseC n nb loss c st) n d = histL st n d := by
  unfold histL
  apply List.map_congr_left
  intro i hi
  have hi' : i < n := by simpa using hi
  unfold loseC
  rw [if_neg (by omega), if_neg (by omega), if_neg (by omega), if_neg (by omega)]
end Go.Proofs.YtcibajleknhklaaDoor
end

section
namespace Go.Proofs.YtcibajleknhklaaDoor
open Go.RowKit Go.Proofs.YtcibajleknhklaaDoorW.PrintWords
open PStateTells RStateTells
def mixF (l : List (List Int)) (n : Nat) : List Int := ((List.range n).map fun i => l.map fun x => x.getD i 0).flatten
theorem mixF_succ (l : List (List Int)) (n : Nat) : mixF l (n + 1) = mixF l n ++ l.map fun x => x.getD n 0 := by
  unfold mixF
  rw [List.range_succ, List.map_append, List.flatten_append]
  simp
theorem mixF_len (l : List (List Int)) : ∀ n, (mixF l n).length = n * l.length
  | 0 => by simp [mixF]
  | n + 1 => by rw [mixF_succ, List.length_append, mixF_len l n, List.length_map, Nat.add_mul, Nat.one_mul]
theorem drop_map_cons (l : List (List Int)) (i j : Nat) (h : j < l.length) : (l.drop j).map (fun x => x.getD i 0) = (l.getD j []).getD i 0 :: (l.drop (j + 1)).map (fun x => x.getD i 0) := by
  rw [List.drop_eq_getElem_cons h, List.map_cons, List.getD_eq_getElem?_getD (l := l), List.getElem?_eq_getElem h]; rfl
theorem len_at (l : List (List Int)) (n j : Nat) (hl : ∀ x ∈ l, x.length = n) (h : j < l.length) : (l.getD j []).length = n := by
  rw [List.getD_eq_getElem?_getD, List.getElem?_eq_getElem h]
  exact hl _ (List.getElem_mem h)
theorem mix_l1 (l : List (List Int)) (n : Nat) (hl : ∀ x ∈ l, x.length = n) (h2 : l.length ≤ 2) (i : Nat) (hi : i < n) (hn : n ≤ 32) : ∀ (d k j : Nat) (acc : List Int), j + d = l.length → acc.length + d ≤ 1000 →
    state_mix.l1 (k + d + 1) l acc (i : Int) n (i : Int) l (l.length : Int) (j : Int) = state_mix.l0 k l (acc ++ (l.drop j).map fun x => x.getD i 0) n ((i + 1 : Nat) : Int)
  | 0, k, j, acc, h, ha => by
    rw [Nat.add_zero, state_mix.l1, if_neg (by omega), wn_add1 (by omega), List.drop_of_length_le (by omega)]
    simp
  | d + 1, k, j, acc, h, ha => by
    have e : (rd_L1 l (j : Int)) = l.getD j [] := by unfold rd_L1; rw [Int.toNat_natCast]
    have hlen := len_at l n j hl (by omega)
    rw [show k + (d + 1) + 1 = (k + d + 1) + 1 from by omega, state_mix.l1, if_pos (by omega), if_pos (by omega), if_pos (by omega), if_pos (by omega), e, if_pos (by rw [hlen]; omega), if_pos (by omega), rd_nat, wn_add1 (by omega),
      mix_l1 l n hl h2 i hi hn d k (j + 1) _ (by omega) (by simp; omega), drop_map_cons l i j (by omega), List.append_assoc]
    rfl
theorem mix_l0 (l : List (List Int)) (n : Nat) (hl : ∀ x ∈ l, x.length = n) (h2 : l.length ≤ 2) (hn : n ≤ 32) : ∀ (d k i : Nat), i + d = n → 5 * d + 1 ≤ k → state_mix.l0 k l (mixF l i) n (i : Int) = some (mixF l n)
  | 0, k, i, h, hk => by
    obtain ⟨k, rfl⟩ : ∃ m, k = m + 1 := ⟨k - 1, by omega⟩
    rw [state_mix.l0, if_neg (by omega), show i = n from by omega]
  | d + 1, k, i, h, hk => by
    obtain ⟨k, rfl⟩ : ∃ m, k = m + l.length + 1 + 1 := ⟨k - l.length - 2, by omega⟩
    rw [state_mix.l0, if_pos (by omega)]
    have := mix_l1 l n hl h2 i (by omega) hn l.length k 0 (mixF l i) (by omega) (by
      rw [mixF_len]
      have : i * l.length ≤ 32 * 2 := Nat.mul_le_mul (by omega) h2
      omega)
    rw [show ((0 : Nat) : Int) = 0 from rfl] at this
    rw [this, List.drop_zero, ← mixF_succ]
    exact mix_l0 l n hl h2 hn d k (i + 1) (by omega) (by omega)
theorem mix_f (l : List (List Int)) (n : Nat) (hl : ∀ x ∈ l, x.length = n) (h2 : l.length ≤ 2) (hn : n ≤ 32) : state_mix.f 200 l n = some (mixF l n) := mix_l0 l n hl h2 hn n 200 0 (by omega) (by omega)
end Go.Proofs.YtcibajleknhklaaDoor
end

section
namespace Go.Proofs.YtcibajleknhklaaDoor
abbrev St := 97
end Go.Proofs.YtcibajleknhklaaDoor
end

section
namespace Go.Proofs.YtcibajleknhklaaDoor
open Go.RowKit Go.BigFrame
set_option linter.unusedSimpArgs false
abbrev RightP (s c : Int) : Prop := 0 ≤ s ∧ s < 3 ∧ 1 ≤ c ∧ c ≤ 2
def bandsF (s c : Int) : Int := if RightP s c then 3 + s else 0
def widL : List Int := [2, 2, 4, 8, 16]
abbrev WidthW (w : World) : Prop := TabW 1 5 .i64 widL w
theorem WidthW.at {w : World} (h : WidthW w) (j : Int) (h0 : 0 ≤ j) (h1 : j < 5) : w.cell? ⟨1, j.toNat, none⟩ = some (.int .i64 (widL.getD j.toNat 0)) := h.2 j.toNat (by omega)
theorem modeRight (s c : Int) (w : World) : Calls Tryd.prog 86 #[.agg #[.int .i64 s, .int .i64 c]] w fun e w' => e = .returned (.bool (decide (RightP s c))) ∧ Below w.heap.size w w' := by
  by_cases h0 : 0 ≤ s
  · skip
    by_cases h1 : s < 3
    · skip
      by_cases h2 : 1 ≤ c
      · skip
        by_cases h3 : c ≤ 2
        · skip
          go_enter Tryd.func86, Tryd.ntmps86
          go_wp2
          go_ret
          exact ⟨ret_bool (by first | rfl | (simp; done) | (simp; omega)), by (repeat' (first | (with_reducible exact Below.refl _ _) | (with_reducible assumption) | (with_reducible refine Below.alloc ?_ ?_ _) | (with_reducible refine below_grew ?_ ?_ _) | (with_reducible refine Below.setCell ?_ ?_ _) | (with_reducible refine Below.drew ?_) | (with_reducible refine below_drewN ?_ _) | omega | (simp; done) | (simp; omega)))⟩
        · skip
          go_enter Tryd.func86, Tryd.ntmps86
          go_wp2
          go_ret
          exact ⟨ret_bool (by first | rfl | (simp; done) | (simp; omega)), by (repeat' (first | (with_reducible exact Below.refl _ _) | (with_reducible assumption) | (with_reducible refine Below.alloc ?_ ?_ _) | (with_reducible refine below_grew ?_ ?_ _) | (with_reducible refine Below.setCell ?_ ?_ _) | (with_reducible refine Below.drew ?_) | (with_reducible refine below_drewN ?_ _) | omega | (simp; done) | (simp; omega)))⟩
      · skip
        go_enter Tryd.func86, Tryd.ntmps86
        go_wp2
        go_ret
        exact ⟨ret_bool (by first | rfl | (simp; done) | (simp; omega)), by (repeat' (first | (with_reducible exact Below.refl _ _) | (with_reducible assumption) | (with_reducible refine Below.alloc ?_ ?_ _) | (with_reducible refine below_grew ?_ ?_ _) | (with_reducible refine Below.setCell ?_ ?_ _) | (with_reducible refine Below.drew ?_) | (with_reducible refine below_drewN ?_ _) | omega | (simp; done) | (simp; omega)))⟩
    · skip
      go_enter Tryd.func86, Tryd.ntmps86
      go_wp2
      go_ret
      exact ⟨ret_bool (by first | rfl | (simp; done) | (simp; omega)), by (repeat' (first | (with_reducible exact Below.refl _ _) | (with_reducible assumption) | (with_reducible refine Below.alloc ?_ ?_ _) | (with_reducible refine below_grew ?_ ?_ _) | (with_reducible refine Below.setCell ?_ ?_ _) | (with_reducible refine Below.drew ?_) | (with_reducible refine below_drewN ?_ _) | omega | (simp; done) | (simp; omega)))⟩
  · skip
    go_enter Tryd.func86, Tryd.ntmps86
    go_wp2
    go_ret
    exact ⟨ret_bool (by first | rfl | (simp; done) | (simp; omega)), by (repeat' (first | (with_reducible exact Below.refl _ _) | (with_reducible assumption) | (with_reducible refine Below.alloc ?_ ?_ _) | (with_reducible refine below_grew ?_ ?_ _) | (with_reducible refine Below.setCell ?_ ?_ _) | (with_reducible refine Below.drew ?_) | (with_reducible refine below_drewN ?_ _) | omega | (simp; done) | (simp; omega)))⟩
theorem modeBands (s c : Int) (w : World) : Calls Tryd.prog 53 #[.agg #[.int .i64 s, .int .i64 c]] w fun e w' => e = .returned (.int .i64 (bandsF s c)) ∧ Below w.heap.size w w' := by
  have hr := Lib.hid (fun w => modeRight s c w)
  by_cases h : RightP s c
  · have E := Lib.hid (show bandsF s c = 3 + s from by unfold bandsF; rw [if_pos h])
    rw [decide_eq_true h] at hr
    obtain ⟨h1, h2, _, _⟩ := h
    go_enter Tryd.func53, Tryd.ntmps53
    go_wp2_with (go_at_call 86; refine (hr.out _).mono ?_; rintro e w' ⟨rfl, hb1⟩; obtain ⟨x1, rfl⟩ := below_as_grew hb1; clear hb1)
    go_ret
    exact ⟨ret_int E.out.symm, by (repeat' (first | (with_reducible exact Below.refl _ _) | (with_reducible assumption) | (with_reducible refine Below.alloc ?_ ?_ _) | (with_reducible refine below_grew ?_ ?_ _) | (with_reducible refine Below.setCell ?_ ?_ _) | (with_reducible refine Below.drew ?_) | (with_reducible refine below_drewN ?_ _) | omega | (simp; done) | (simp; omega)))⟩
  · have E := Lib.hid (show bandsF s c = 0 from by unfold bandsF; rw [if_neg h])
    rw [decide_eq_false h] at hr
    clear h
    go_enter Tryd.func53, Tryd.ntmps53
    go_wp2_with (go_at_call 86; refine (hr.out _).mono ?_; rintro e w' ⟨rfl, hb1⟩; obtain ⟨x1, rfl⟩ := below_as_grew hb1; clear hb1)
    go_ret
    exact ⟨ret_int E.out.symm, by (repeat' (first | (with_reducible exact Below.refl _ _) | (with_reducible assumption) | (with_reducible refine Below.alloc ?_ ?_ _) | (with_reducible refine below_grew ?_ ?_ _) | (with_reducible refine Below.setCell ?_ ?_ _) | (with_reducible refine Below.drew ?_) | (with_reducible refine below_drewN ?_ _) | omega | (simp; done) | (simp; omega)))⟩
end Go.Proofs.YtcibajleknhklaaDoor
end

section
namespace Go.Proofs.YtcibajleknhklaaDoor
open Go.RowKit Go.BigFrame Go.Proofs.YtcibajleknhklaaDoorW.PrintWords Go.Proofs.YtcibajleknhklaaDoorW.PrintLast Go.Proofs.YtcibajleknhklaaDoorW.PrintMore
open PStateTells RStateTells
set_option linter.unusedSimpArgs false
set_option linter.unusedVariables false
def fadL : List Int := [0, 29491, 22937, 13107, 4915]
abbrev FadeW (w : World) : Prop := TabW 2 5 .i32 fadL w
theorem FadeW.at {w : World} (h : FadeW w) (j : Int) (h0 : 0 ≤ j) (h1 : j < 5) : w.cell? ⟨2, j.toNat, none⟩ = some (.int .i32 (fadL.getD j.toNat 0)) := h.2 j.toNat (by omega)
theorem fadL_eq (n : Int) (h0 : 0 ≤ n) (h1 : n < 5) : fadL.getD n.toNat 0 = fadeF n := by
  have h5 : ∀ i : Fin 5, fadL.getD i.val 0 = fadeF (i.val : Int) := by decide
  have := h5 ⟨n.toNat, by omega⟩
  simp only at this
  rw [this, Int.toNat_of_nonneg h0]
theorem fade_any (n : Int) (w : World) (hT : FadeW w) : Calls Tryd.prog 128 #[.int .i64 n] w fun e w' => e = .returned (.int .i32 (fadeF n)) ∧ Below w.heap.size w w' := by
  by_cases h0 : n < 0
  · have E := Lib.hid (show fadeF n = 0 from by unfold fadeF; omega)
    clear hT
    go_enter Tryd.func128, Tryd.ntmps128
    go_wp2
    go_ret
    exact ⟨by rw [E.out]; rfl, by (repeat' (first | (with_reducible exact Below.refl _ _) | (with_reducible assumption) | (with_reducible refine Below.alloc ?_ ?_ _) | (with_reducible refine below_grew ?_ ?_ _) | (with_reducible refine Below.setCell ?_ ?_ _) | (with_reducible refine Below.drew ?_) | (with_reducible refine below_drewN ?_ _) | omega | (simp; done) | (simp; omega)))⟩
  · by_cases h5 : 5 ≤ n
    · have E := Lib.hid (show fadeF n = 0 from by unfold fadeF; omega)
      clear hT
      go_enter Tryd.func128, Tryd.ntmps128
      go_wp2
      go_ret
      exact ⟨by rw [E.out]; rfl, by (repeat' (first | (with_reducible exact Below.refl _ _) | (with_reducible assumption) | (with_reducible refine Below.alloc ?_ ?_ _) | (with_reducible refine below_grew ?_ ?_ _) | (with_reducible refine Below.setCell ?_ ?_ _) | (with_reducible refine Below.drew ?_) | (with_reducible refine below_drewN ?_ _) | omega | (simp; done) | (simp; omega)))⟩
    · have E := Lib.hid (fadL_eq n (by omega) (by omega))
      have hc := hT.at n (by omega) (by omega)
      have hg := hT.1
      generalize fadL.getD n.toNat 0 = x at *
      have h0' : 0 ≤ n := by omega
      have h5' : n < 5 := by omega
      clear hT h0 h5
      go_enter Tryd.func128, Tryd.ntmps128
      go_wp2
      go_ret
      exact ⟨by rw [E.out]; rfl, by (repeat' (first | (with_reducible exact Below.refl _ _) | (with_reducible assumption) | (with_reducible refine Below.alloc ?_ ?_ _) | (with_reducible refine below_grew ?_ ?_ _) | (with_reducible refine Below.setCell ?_ ?_ _) | (with_reducible refine Below.drew ?_) | (with_reducible refine below_drewN ?_ _) | omega | (simp; done) | (simp; omega)))⟩
set_option maxHeartbeats 4000000 in
set_option maxRecDepth 100000 in
theorem plain_any (l : List Int) (A : Option Addr) (c : Nat) (loss : Int) (w : World) (hC : Kd.C (Kd.int .i32) w A l.length l) (hc : l.length ≤ c) (hn : Len l.length) (hT : FadeW w) :
    Calls Tryd.prog 90 #[.slice A l.length c, .int .i64 loss] w fun e w' => ∃ v, e = .returned v ∧ Kd.R (Kd.int .i32) 21 w' w.heap.size (fun _ => True) v (madeF l loss) ∧ Below w.heap.size w w' := by
  have HC := Lib.hid hC
  have HT := Lib.hid hT
  have HL := Lib.hid (fun w h => conceal_Lag.calls 60 A c l _ w h hc (lag_f l hn 60 (by decide)))
  obtain ⟨p, hp⟩ : ∃ p : Nat, p = lagF l := ⟨_, rfl⟩
  obtain ⟨g1, g2⟩ := lag_bd l hn
  rw [← hp] at g1 g2 HL
  have HP := Lib.hid hp
  have hlen : 8 ≤ l.length ∧ l.length ≤ 32 := by unfold Len at hn; omega
  have pz : ((p : Int) == 0) = false := beq_eq_false_iff_ne.mpr (by omega)
  clear hC hT hn hp
  go_enter Tryd.func90, Tryd.ntmps90
  go_wp2_with fail
  refine (HL.out _ (Kd.C_below HC.out (by (repeat' (first | (with_reducible exact Below.refl _ _) | (with_reducible assumption) | (with_reducible refine Below.alloc ?_ ?_ _) | (with_reducible refine below_grew ?_ ?_ _) | (with_reducible refine Below.setCell ?_ ?_ _) | (with_reducible refine Below.drew ?_) | (with_reducible refine below_drewN ?_ _) | omega | (simp; done) | (simp; omega)))))).mono ?_
  rintro e w1 ⟨rfl, hb1⟩
  have hw1 := Lib.hid (show Below w.heap.size w w1 from by have := hb1; exact Below.trans (by (repeat' (first | (with_reducible exact Below.refl _ _) | (with_reducible assumption) | (with_reducible refine Below.alloc ?_ ?_ _) | (with_reducible refine below_grew ?_ ?_ _) | (with_reducible refine Below.setCell ?_ ?_ _) | (with_reducible refine Below.drew ?_) | (with_reducible refine below_drewN ?_ _) | omega | (simp; done) | (simp; omega)))) (this.mono (by simp)))
  clear hb1
  go_wp2_with fail
  go_loopw [6, 14] (fun vo cnt wr => ∃ i : Nat, i ≤ l.length ∧ cnt = .int .i64 i ∧ wr.ownsRow w.heap.size 21 1 vo i (((List.range i).map (madeAt l loss)).map (Value.int .i32)) ∧ Below w.heap.size w wr) (fun _ cnt _ => l.length - (intOf cnt).toNat)
  case atStart => exact ⟨0, by omega, rfl, World.ownsRow_nil _ _ _ _, by have := hw1.out; (repeat' (first | (with_reducible exact Below.refl _ _) | (with_reducible assumption) | (with_reducible refine Below.alloc ?_ ?_ _) | (with_reducible refine below_grew ?_ ?_ _) | (with_reducible refine Below.setCell ?_ ?_ _) | (with_reducible refine Below.drew ?_) | (with_reducible refine below_drewN ?_ _) | omega | (simp; done) | (simp; omega)))⟩
  case round =>
    obtain ⟨i, hi, rfl, hR, hB⟩ := hrel
    have HR := Lib.hid hR
    have HB := Lib.hid hB
    clear hR hB
    by_cases hlt : i < l.length
    · have hlt' : (i : Int) < l.length := by omega
      have hm := Nat.mod_lt i (show p > 0 by omega)
      obtain ⟨j, hj⟩ : ∃ j : Int, j = ((l.length - p + i % p : Nat) : Int) := ⟨_, rfl⟩
      obtain ⟨a1, f1⟩ : ∃ a1 : Int, IntKind.i64.wrap ((l.length : Int) - (p : Int)) = a1 := ⟨_, rfl⟩
      obtain ⟨a2, f2⟩ : ∃ a2 : Int, Int.tmod (i : Int) (p : Int) = a2 := ⟨_, rfl⟩
      have f3 : IntKind.i64.wrap (a1 + a2) = j := by
        have e1 : a1 = ((l.length - p : Nat) : Int) := by rw [← f1, wr_small (by omega) (by omega)]; omega
        have e2 : a2 = ((i % p : Nat) : Int) := by rw [← f2, Int.tmod_eq_emod_of_nonneg (by omega)]; rfl
        rw [e1, e2, wr_small (by omega) (by omega), hj]; rfl
      have j0 : (0 : Int) ≤ j := by omega
      have j1 : j < (l.length : Int) := by omega
      obtain ⟨ad, rfl, hcell⟩ := Kd.at_int HC.out j j0 j1
      have hcell := (HB.out.cell (World.block_lt_of_cell? w _ hcell)).trans hcell
      have HBL := Lib.hid (World.block_lt_of_cell? wr _ hcell)
      have HJ := Lib.hid hj
      have HCL := Lib.hid hcell
      have hTV : FadeW wr := HT.out.below HB.out
      have HTV := Lib.hid hTV
      have hpart := Lib.hid (part_eq (rd l j) loss)
      have hx : (hd (rd l j) * fadeF loss).tdiv 32768 = madeAt l loss i := by
        rw [hj, rd_nat, HP.out]; rfl
      rw [hx] at hpart
      generalize rd l j = x at *
      clear hj hcell hTV hx
      go_wp2_with fail
      refine wp_region_inv [] (fun W => Below wr.heap.size wr W) (fun W W' => Below W.heap.size W W') 16 (by kernel_rfl) (by kernel_rfl) (by kernel_rfl) ((Below.refl _ _).drew) (fun W W' h h' => h.trans (h'.mono h.size)) (fun _ _ h => h.size) ?_
      simp only [List.take_succ_cons, List.take_zero, List.drop_succ_cons, List.drop_zero]
      refine wpInv_det (by kernel_rfl) (by kernel_rfl) ?_
      apply Exists.intro
      refine ⟨?_, ?_, ?_⟩
      · intro U W hC hH
        have hc1 := (bcell hC).1
        have hf1 := (bcell hC).2
        simp only [HypsU, predsOf, Region.binds, List.filterMap_cons, List.filterMap_nil, if_true, List.nil_append, List.cons_append, List.getD_cons_zero, List.getD_cons_succ] at hH
        simp only [fillPuts, Act.put, List.setIfInBounds_toArray, List.set_cons_zero, List.set_cons_succ, Nat.reduceAdd]
        go_wp2_with fail
        refine ⟨rfl, rfl, by (repeat' (first | (with_reducible exact Below.refl _ _) | (with_reducible assumption) | (with_reducible refine Below.alloc ?_ ?_ _) | (with_reducible refine below_grew ?_ ?_ _) | (with_reducible refine Below.setCell ?_ ?_ _) | (with_reducible refine Below.drew ?_) | (with_reducible refine below_drewN ?_ _) | omega | (simp; done) | (simp; omega))), ?_⟩
        conv => lhs; whnf
        try rfl
      · exact fun _ => rfl
      simp only [List.nil_append, List.cons_append, Nat.reduceAdd]
      refine wpInv_det (by kernel_rfl) (by kernel_rfl) ?_
      apply Exists.intro
      refine ⟨?_, ?_, ?_⟩
      · intro U W hC hH
        have hc1 := (bcell hC).1
        have hf1 := (bcell hC).2
        simp only [HypsU, predsOf, Region.binds, List.filterMap_cons, List.filterMap_nil, if_true, List.nil_append, List.cons_append, List.getD_cons_zero, List.getD_cons_succ] at hH
        simp only [fillPuts, Act.put, List.setIfInBounds_toArray, List.set_cons_zero, List.set_cons_succ, Nat.reduceAdd]
        go_wp2_with fail
        refine ⟨rfl, rfl, by (repeat' (first | (with_reducible exact Below.refl _ _) | (with_reducible assumption) | (with_reducible refine Below.alloc ?_ ?_ _) | (with_reducible refine below_grew ?_ ?_ _) | (with_reducible refine Below.setCell ?_ ?_ _) | (with_reducible refine Below.drew ?_) | (with_reducible refine below_drewN ?_ _) | omega | (simp; done) | (simp; omega))), ?_⟩
        conv => lhs; whnf
        try rfl
      · exact fun _ => rfl
      simp only [List.nil_append, List.cons_append, Nat.reduceAdd]
      refine wpInv_det (by kernel_rfl) (by kernel_rfl) ?_
      apply Exists.intro
      refine ⟨?_, ?_, ?_⟩
      · intro U W hC hH
        have hc1 := (bcell hC).1
        have hf1 := (bcell hC).2
        simp only [HypsU, predsOf, Region.binds, List.filterMap_cons, List.filterMap_nil, if_true, List.nil_append, List.cons_append, List.getD_cons_zero, List.getD_cons_succ] at hH
        simp only [fillPuts, Act.put, List.setIfInBounds_toArray, List.set_cons_zero, List.set_cons_succ, Nat.reduceAdd]
        go_wp2_with fail
        refine ⟨rfl, rfl, by (repeat' (first | (with_reducible exact Below.refl _ _) | (with_reducible assumption) | (with_reducible refine Below.alloc ?_ ?_ _) | (with_reducible refine below_grew ?_ ?_ _) | (with_reducible refine Below.setCell ?_ ?_ _) | (with_reducible refine Below.drew ?_) | (with_reducible refine below_drewN ?_ _) | omega | (simp; done) | (simp; omega))), ?_⟩
        conv => lhs; whnf
        try rfl
      · exact fun _ => rfl
      simp only [List.nil_append, List.cons_append, Nat.reduceAdd]
      refine wpInv_det (by kernel_rfl) (by kernel_rfl) ?_
      apply Exists.intro
      refine ⟨?_, ?_, ?_⟩
      · intro U W hC hH
        have hc1 := (bcell hC).1
        have hf1 := (bcell hC).2
        simp only [HypsU, predsOf, Region.binds, List.filterMap_cons, List.filterMap_nil, if_true, List.nil_append, List.cons_append, List.getD_cons_zero, List.getD_cons_succ] at hH
        simp only [fillPuts, Act.put, List.setIfInBounds_toArray, List.set_cons_zero, List.set_cons_succ, Nat.reduceAdd]
        go_wp2_with fail
        refine ⟨rfl, rfl, by (repeat' (first | (with_reducible exact Below.refl _ _) | (with_reducible assumption) | (with_reducible refine Below.alloc ?_ ?_ _) | (with_reducible refine below_grew ?_ ?_ _) | (with_reducible refine Below.setCell ?_ ?_ _) | (with_reducible refine Below.drew ?_) | (with_reducible refine below_drewN ?_ _) | omega | (simp; done) | (simp; omega))), ?_⟩
        conv => lhs; whnf
        try rfl
      · exact fun _ => rfl
      simp only [List.nil_append, List.cons_append, Nat.reduceAdd]
      refine wpInv_det (by kernel_rfl) (by kernel_rfl) ?_
      apply Exists.intro
      refine ⟨?_, ?_, ?_⟩
      · intro U W hC hH
        have hc1 := (bcell hC).1
        have hf1 := (bcell hC).2
        simp only [HypsU, predsOf, Region.binds, List.filterMap_cons, List.filterMap_nil, if_true, List.nil_append, List.cons_append, List.getD_cons_zero, List.getD_cons_succ] at hH
        simp only [fillPuts, Act.put, List.setIfInBounds_toArray, List.set_cons_zero, List.set_cons_succ, Nat.reduceAdd]
        go_wp2_with fail
        refine ⟨rfl, rfl, by (repeat' (first | (with_reducible exact Below.refl _ _) | (with_reducible assumption) | (with_reducible refine Below.alloc ?_ ?_ _) | (with_reducible refine below_grew ?_ ?_ _) | (with_reducible refine Below.setCell ?_ ?_ _) | (with_reducible refine Below.drew ?_) | (with_reducible refine below_drewN ?_ _) | omega | (simp; done) | (simp; omega))), ?_⟩
        conv => lhs; whnf
        try rfl
      · exact fun _ => rfl
      simp only [List.nil_append, List.cons_append, Nat.reduceAdd]
      refine wpInv_det (by kernel_rfl) (by kernel_rfl) ?_
      apply Exists.intro
      refine ⟨?_, ?_, ?_⟩
      · intro U W hC hH
        have hc1 := (bcell hC).1
        have hf1 := (bcell hC).2
        simp only [HypsU, predsOf, Region.binds, List.filterMap_cons, List.filterMap_nil, if_true, List.nil_append, List.cons_append, List.getD_cons_zero, List.getD_cons_succ] at hH
        simp only [fillPuts, Act.put, List.setIfInBounds_toArray, List.set_cons_zero, List.set_cons_succ, Nat.reduceAdd]
        go_wp2_with fail
        refine ⟨rfl, rfl, by (repeat' (first | (with_reducible exact Below.refl _ _) | (with_reducible assumption) | (with_reducible refine Below.alloc ?_ ?_ _) | (with_reducible refine below_grew ?_ ?_ _) | (with_reducible refine Below.setCell ?_ ?_ _) | (with_reducible refine Below.drew ?_) | (with_reducible refine below_drewN ?_ _) | omega | (simp; done) | (simp; omega))), ?_⟩
        conv => lhs; whnf
        try rfl
      · exact fun _ => rfl
      simp only [List.nil_append, List.cons_append, Nat.reduceAdd]
      refine wpInv_det (by kernel_rfl) (by kernel_rfl) ?_
      apply Exists.intro
      refine ⟨?_, ?_, ?_⟩
      · intro U W hC hH
        have hc1 := (bcell hC).1
        have hf1 := (bcell hC).2
        simp only [HypsU, predsOf, Region.binds, List.filterMap_cons, List.filterMap_nil, if_true, List.nil_append, List.cons_append, List.getD_cons_zero, List.getD_cons_succ] at hH
        simp only [fillPuts, Act.put, List.setIfInBounds_toArray, List.set_cons_zero, List.set_cons_succ, Nat.reduceAdd]
        go_wp2_with fail
        refine ⟨rfl, rfl, by (repeat' (first | (with_reducible exact Below.refl _ _) | (with_reducible assumption) | (with_reducible refine Below.alloc ?_ ?_ _) | (with_reducible refine below_grew ?_ ?_ _) | (with_reducible refine Below.setCell ?_ ?_ _) | (with_reducible refine Below.drew ?_) | (with_reducible refine below_drewN ?_ _) | omega | (simp; done) | (simp; omega))), ?_⟩
        conv => lhs; whnf
        try rfl
      · exact fun _ => rfl
      simp only [List.nil_append, List.cons_append, Nat.reduceAdd]
      refine wpInv_det (by kernel_rfl) (by kernel_rfl) ?_
      apply Exists.intro
      refine ⟨?_, ?_, ?_⟩
      · intro U W hC hH
        have hc1 := (bcell hC).1
        have hf1 := (bcell hC).2
        simp only [HypsU, predsOf, Region.binds, List.filterMap_cons, List.filterMap_nil, if_true, List.nil_append, List.cons_append, List.getD_cons_zero, List.getD_cons_succ] at hH
        simp only [fillPuts, Act.put, List.setIfInBounds_toArray, List.set_cons_zero, List.set_cons_succ, Nat.reduceAdd]
        go_wp2_with fail
        refine ⟨rfl, rfl, by (repeat' (first | (with_reducible exact Below.refl _ _) | (with_reducible assumption) | (with_reducible refine Below.alloc ?_ ?_ _) | (with_reducible refine below_grew ?_ ?_ _) | (with_reducible refine Below.setCell ?_ ?_ _) | (with_reducible refine Below.drew ?_) | (with_reducible refine below_drewN ?_ _) | omega | (simp; done) | (simp; omega))), ?_⟩
        conv => lhs; whnf
        try rfl
      · exact fun _ => rfl
      simp only [List.nil_append, List.cons_append, Nat.reduceAdd]
      refine wpInv_det (by kernel_rfl) (by kernel_rfl) ?_
      apply Exists.intro
      refine ⟨?_, ?_, ?_⟩
      · intro U W hC hH
        have hc1 := (bcell hC).1
        have hf1 := (bcell hC).2
        simp only [HypsU, predsOf, Region.binds, List.filterMap_cons, List.filterMap_nil, if_true, List.nil_append, List.cons_append, List.getD_cons_zero, List.getD_cons_succ] at hH
        simp only [fillPuts, Act.put, List.setIfInBounds_toArray, List.set_cons_zero, List.set_cons_succ, Nat.reduceAdd]
        go_wp2_with fail
        refine ⟨rfl, rfl, by (repeat' (first | (with_reducible exact Below.refl _ _) | (with_reducible assumption) | (with_reducible refine Below.alloc ?_ ?_ _) | (with_reducible refine below_grew ?_ ?_ _) | (with_reducible refine Below.setCell ?_ ?_ _) | (with_reducible refine Below.drew ?_) | (with_reducible refine below_drewN ?_ _) | omega | (simp; done) | (simp; omega))), ?_⟩
        conv => lhs; whnf
        try rfl
      · exact fun _ => rfl
      simp only [List.nil_append, List.cons_append, Nat.reduceAdd]
      refine wpInv_det (by kernel_rfl) (by kernel_rfl) ?_
      apply Exists.intro
      refine ⟨?_, ?_, ?_⟩
      · intro U W hC hH
        have hc1 := (bcell hC).1
        have hf1 := (bcell hC).2
        simp only [HypsU, predsOf, Region.binds, List.filterMap_cons, List.filterMap_nil, if_true, List.nil_append, List.cons_append, List.getD_cons_zero, List.getD_cons_succ] at hH
        simp only [fillPuts, Act.put, List.setIfInBounds_toArray, List.set_cons_zero, List.set_cons_succ, Nat.reduceAdd]
        go_wp2_with fail
        refine ⟨rfl, rfl, by (repeat' (first | (with_reducible exact Below.refl _ _) | (with_reducible assumption) | (with_reducible refine Below.alloc ?_ ?_ _) | (with_reducible refine below_grew ?_ ?_ _) | (with_reducible refine Below.setCell ?_ ?_ _) | (with_reducible refine Below.drew ?_) | (with_reducible refine below_drewN ?_ _) | omega | (simp; done) | (simp; omega))), ?_⟩
        conv => lhs; whnf
        try rfl
      · exact fun _ => rfl
      simp only [List.nil_append, List.cons_append, Nat.reduceAdd]
      refine wpInv_det (by kernel_rfl) (by kernel_rfl) ?_
      apply Exists.intro
      refine ⟨?_, ?_, ?_⟩
      · intro U W hC hH
        have hc1 := (bcell hC).1
        have hf1 := (bcell hC).2
        simp only [HypsU, predsOf, Region.binds, List.filterMap_cons, List.filterMap_nil, if_true, List.nil_append, List.cons_append, List.getD_cons_zero, List.getD_cons_succ] at hH
        simp only [fillPuts, Act.put, List.setIfInBounds_toArray, List.set_cons_zero, List.set_cons_succ, Nat.reduceAdd]
        go_wp2_with fail
        refine ⟨rfl, rfl, by (repeat' (first | (with_reducible exact Below.refl _ _) | (with_reducible assumption) | (with_reducible refine Below.alloc ?_ ?_ _) | (with_reducible refine below_grew ?_ ?_ _) | (with_reducible refine Below.setCell ?_ ?_ _) | (with_reducible refine Below.drew ?_) | (with_reducible refine below_drewN ?_ _) | omega | (simp; done) | (simp; omega))), ?_⟩
        conv => lhs; whnf
        try rfl
      · exact fun _ => rfl
      simp only [List.nil_append, List.cons_append, Nat.reduceAdd]
      refine wpInv_det (by kernel_rfl) (by kernel_rfl) ?_
      apply Exists.intro
      refine ⟨?_, ?_, ?_⟩
      · intro U W hC hH
        have hc1 := (bcell hC).1
        have hf1 := (bcell hC).2
        simp only [HypsU, predsOf, Region.binds, List.filterMap_cons, List.filterMap_nil, if_true, List.nil_append, List.cons_append, List.getD_cons_zero, List.getD_cons_succ] at hH
        simp only [fillPuts, Act.put, List.setIfInBounds_toArray, List.set_cons_zero, List.set_cons_succ, Nat.reduceAdd]
        have hcl := (hC.cell HBL.out).trans HCL.out; go_wp2_with fail
        refine ⟨rfl, rfl, by (repeat' (first | (with_reducible exact Below.refl _ _) | (with_reducible assumption) | (with_reducible refine Below.alloc ?_ ?_ _) | (with_reducible refine below_grew ?_ ?_ _) | (with_reducible refine Below.setCell ?_ ?_ _) | (with_reducible refine Below.drew ?_) | (with_reducible refine below_drewN ?_ _) | omega | (simp; done) | (simp; omega))), ?_⟩
        conv => lhs; whnf
        try rfl
      · exact fun _ => rfl
      simp only [List.nil_append, List.cons_append, Nat.reduceAdd]
      refine wpInv_det (by kernel_rfl) (by kernel_rfl) ?_
      apply Exists.intro
      refine ⟨?_, ?_, ?_⟩
      · intro U W hC hH
        have hc1 := (bcell hC).1
        have hf1 := (bcell hC).2
        simp only [HypsU, predsOf, Region.binds, List.filterMap_cons, List.filterMap_nil, if_true, List.nil_append, List.cons_append, List.getD_cons_zero, List.getD_cons_succ] at hH
        simp only [fillPuts, Act.put, List.setIfInBounds_toArray, List.set_cons_zero, List.set_cons_succ, Nat.reduceAdd]
        go_wp2_with fail
        refine ⟨rfl, rfl, by (repeat' (first | (with_reducible exact Below.refl _ _) | (with_reducible assumption) | (with_reducible refine Below.alloc ?_ ?_ _) | (with_reducible refine below_grew ?_ ?_ _) | (with_reducible refine Below.setCell ?_ ?_ _) | (with_reducible refine Below.drew ?_) | (with_reducible refine below_drewN ?_ _) | omega | (simp; done) | (simp; omega))), ?_⟩
        conv => lhs; whnf
        try rfl
      · exact fun _ => rfl
      simp only [List.nil_append, List.cons_append, Nat.reduceAdd]
      refine wpInv_det (by kernel_rfl) (by kernel_rfl) ?_
      apply Exists.intro
      refine ⟨?_, ?_, ?_⟩
      · intro U W hC hH
        have hc1 := (bcell hC).1
        have hf1 := (bcell hC).2
        simp only [HypsU, predsOf, Region.binds, List.filterMap_cons, List.filterMap_nil, if_true, List.nil_append, List.cons_append, List.getD_cons_zero, List.getD_cons_succ] at hH
        simp only [fillPuts, Act.put, List.setIfInBounds_toArray, List.set_cons_zero, List.set_cons_succ, Nat.reduceAdd]
        go_wp2_with fail; refine (fade_any _ _ (HTV.out.below hC)).mono ?_; rintro e w' ⟨rfl, hb1⟩; obtain ⟨x1, rfl⟩ := below_as_grew hb1; clear hb1; go_wp2_with fail
        refine ⟨rfl, rfl, by (repeat' (first | (with_reducible exact Below.refl _ _) | (with_reducible assumption) | (with_reducible refine Below.alloc ?_ ?_ _) | (with_reducible refine below_grew ?_ ?_ _) | (with_reducible refine Below.setCell ?_ ?_ _) | (with_reducible refine Below.drew ?_) | (with_reducible refine below_drewN ?_ _) | omega | (simp; done) | (simp; omega))), ?_⟩
        conv => lhs; whnf
        try rfl
      · exact fun _ => rfl
      simp only [List.nil_append, List.cons_append, Nat.reduceAdd]
      refine wpInv_det (by kernel_rfl) (by kernel_rfl) ?_
      apply Exists.intro
      refine ⟨?_, ?_, ?_⟩
      · intro U W hC hH
        have hc1 := (bcell hC).1
        have hf1 := (bcell hC).2
        simp only [HypsU, predsOf, Region.binds, List.filterMap_cons, List.filterMap_nil, if_true, List.nil_append, List.cons_append, List.getD_cons_zero, List.getD_cons_succ] at hH
        simp only [fillPuts, Act.put, List.setIfInBounds_toArray, List.set_cons_zero, List.set_cons_succ, Nat.reduceAdd]
        go_wp2_with fail; refine (conceal_part.calls _ _ _ _ hpart.out).mono ?_; rintro e w' ⟨rfl, hb1⟩; obtain ⟨x1, rfl⟩ := below_as_grew hb1; clear hb1; go_wp2_with fail
        refine ⟨rfl, rfl, by (repeat' (first | (with_reducible exact Below.refl _ _) | (with_reducible assumption) | (with_reducible refine Below.alloc ?_ ?_ _) | (with_reducible refine below_grew ?_ ?_ _) | (with_reducible refine Below.setCell ?_ ?_ _) | (with_reducible refine Below.drew ?_) | (with_reducible refine below_drewN ?_ _) | omega | (simp; done) | (simp; omega))), ?_⟩
        conv => lhs; whnf
        try rfl
      · exact fun _ => rfl
      simp only [List.nil_append, List.cons_append, Nat.reduceAdd]
      refine ⟨fun U W => ∃ q, U 15 = .slice (some ⟨q, 0, none⟩) 1 1 ∧ wr.heap.size ≤ q ∧ W.heap[q]? = some (.cells #[.int .i32 (madeAt l loss i)] 21 (0, 0)), fun _ _ => rfl, ?_, ?_, ?_⟩
      · rintro U W W' hC hT ⟨q, h0, hq, hqc⟩
        exact ⟨q, h0, hq, (hT.block q (Array.getElem?_eq_some_iff.1 hqc).1).trans hqc⟩
      · intro U W hC hH
        simp only [HypsU, predsOf, Region.binds, List.filterMap_cons, List.filterMap_nil, if_true, List.nil_append, List.cons_append, List.getD_cons_zero, List.getD_cons_succ] at hH
        simp only [fillPuts, Act.put, List.setIfInBounds_toArray, List.set_cons_zero, List.set_cons_succ, Nat.reduceAdd]
        go_wp2_with fail
        refine ⟨rfl, rfl, by (repeat' (first | (with_reducible exact Below.refl _ _) | (with_reducible assumption) | (with_reducible refine Below.alloc ?_ ?_ _) | (with_reducible refine below_grew ?_ ?_ _) | (with_reducible refine Below.setCell ?_ ?_ _) | (with_reducible refine Below.drew ?_) | (with_reducible refine below_drewN ?_ _) | omega | (simp; done) | (simp; omega))), ⟨_, updU_eq _ _ _, hC.size, alloc_at _ _⟩, fun h => by cases h⟩
      simp only [List.nil_append, List.cons_append, Nat.reduceAdd, fillPuts, Act.put, List.setIfInBounds_toArray, List.set_cons_zero, List.set_cons_succ]
      rintro U W hC ⟨h0, h1, h2, h3, h4, h5, h6, h7, h8, h9, h10, h11, h12, h13, h14, ⟨q, h15, hq, hqc⟩, -⟩ -
      simp only [h0, h1, h2, h3, h4, h5, h6, h7, h8, h9, h10, h11, h12, h13, h14, h15]
      clear h0 h1 h2 h3 h4 h5 h6 h7 h8 h9 h10 h11 h12 h13 h14 h15
      have hRW := ownsRow_below HR.out hC
      have hsz : w.heap.size ≤ W.heap.size := Nat.le_trans HB.out.size hC.size
      go_wp2_with (at_builtin; refine append_src rfl _ _ 43 rfl w.heap.size 21 21 (.int .i32 0) 1 4 Tryd.underlying43 (by kernel_rfl) (by rfl) (by decide) u6 i _ rfl hRW q [_] rfl hqc rfl ?h1 ?h63 ?hby ?hba ?_; (case h1 => simp [Value.oneCell']; done); (case h63 => exact maxLen_le (by omega)); (case hby => omega); (case hba => omega); intro v' w' hR' hgr hown)
      have hB' : Below w.heap.size w w' := (HB.out.trans (hC.mono HB.out.size)).trans ⟨hgr.os, hgr.tape, hgr.output, hgr.size, fun k hk => hgr.block k (by omega) (fun e => by have := (own_lt' hRW k e.symm).1; omega)⟩
      have HR' := Lib.hid hR'
      have HB' := Lib.hid hB'
      clear hR' hB' hgr hown hRW hqc
      go_wp2_with fail
      go_roundw
      case rel =>
        refine ⟨i + 1, by omega, rfl, ?_, HB'.out⟩
        have := HR'.out
        rw [List.range_succ, List.map_append, List.map_append]
        exact this
      case measure => simp [intOf]; omega
    · have hlt' : ¬ (i : Int) < l.length := by omega
      obtain rfl : i = l.length := by omega
      go_wp2_with fail
      go_ret
      refine ⟨u6, rfl, ?_, HB.out⟩
      refine Kd.R_of_own ?_ (fun _ _ => trivial)
      have := HR.out
      unfold madeF
      simpa only [List.length_map, List.length_range, encs] using this
end Go.Proofs.YtcibajleknhklaaDoor
end

section
namespace Go.Proofs.YtcibajleknhklaaDoor
open Go.RowKit Go.BigFrame Go.Proofs.YtcibajleknhklaaDoorW.PrintWords Go.Proofs.YtcibajleknhklaaDoorW.PrintLast Go.Proofs.YtcibajleknhklaaDoorW.PrintMore
open PStateTells RStateTells
set_option linter.unusedSimpArgs false
set_option linter.unusedVariables false
theorem sat16_eq (x : Int) : fix_Sat16.f x = some (sat16 x) := by
  unfold fix_Sat16.f sat16 mn mx
  congr 1
  split <;> split <;> omega
theorem info_sl : (Tryd.prog.info? 100).map (fun i => (i.zero, i.size, i.bytes)) = some (some (.slice none 0 0), 1, 24) := by kernel_rfl
theorem infoI16 : (Tryd.prog.info? 108).map (fun i => (i.zero, i.size, i.bytes)) = some (some (.int .i16 0), 1, 2) := by kernel_rfl
theorem zeroI32 (w : World) : (zeroValue 21).run Tryd.prog w = .ok (.int .i32 0) w := by kernel_rfl
theorem madeF_bd (l : List Int) (L : Int) (i : Nat) : -16777216 ≤ (madeF l L).getD i 0 ∧ (madeF l L).getD i 0 ≤ 16777216 := by
  unfold madeF
  by_cases h : i < l.length
  · simp only [List.getD_eq_getElem?_getD, List.getElem?_map, List.getElem?_range h, Option.map_some, Option.getD_some]
    exact madeAt_bd _ _ _
  · rw [List.getD_eq_getElem?_getD, List.getElem?_eq_none (by simp; omega)]
    simp
theorem zeroS_size : Tryd.zeroCells97.size = 142 := by kernel_rfl
theorem zeroS_le (f : Nat → Int) : (ag kS 142 f).size ≤ Tryd.zeroCells97.size := by rw [ag_size, zeroS_size]; exact Nat.le_refl _
theorem infoS : (Tryd.prog.info? 97).map (·.size) = some 142 := by kernel_rfl
theorem infoS_ag (f : Nat → Int) : (Tryd.prog.info? 97).map (·.size) = some (ag kS 142 f).size := by rw [ag_size]; exact infoS
/-- The call's frame: the state, the mode, the result. -/
structure LS (w : World) (B : Nat) (f : Nat → Int) (s c : Int) (W : World) : Prop where
  below : Below B w W
  size : B + 2 < W.heap.size
  st : Bx B St kS 142 f W
  mo : W.heap[B + 1]? = some (.cells #[.int .i64 s, .int .i64 c] 60 (0, 0))
  rz : W.heap[B + 2]? = some (.cells Tryd.zeroCells97 St (0, 0))
theorem LS.keepB {w B f s c} {C : Nat} {W W' : World} (h : LS w B f s c W) (hb : Below C W W') (hC : B + 2 < C) : LS w B f s c W' := by
  have hs := h.size
  exact ⟨h.below.trans (hb.mono (by omega)), Nat.lt_of_lt_of_le hs hb.size, (hb.block _ (by omega)).trans h.st, (hb.block _ (by omega)).trans h.mo, (hb.block _ (by omega)).trans h.rz⟩
theorem LS.keep {w B f s c} {W W' : World} (h : LS w B f s c W) (hb : Below W.heap.size W W') : LS w B f s c W' := h.keepB hb h.size
theorem LS.only {w B f s c} {f' : Nat → Int} {W W' : World} (h : LS w B f s c W) (ho : Only B W W') (hf : Bx B St kS 142 f' W') : LS w B f' s c W' :=
  ⟨ho.below h.below (Nat.le_refl _), by rw [ho.size]; exact h.size, hf, (ho.block _ (by omega)).trans h.mo, (ho.block _ (by omega)).trans h.rz⟩
theorem LS.m0 {w B f s c} {W : World} (h : LS w B f s c W) : W.cell? ⟨B + 1, 0, none⟩ = some (.int .i64 s) := (block_facts h.mo).1 0
theorem LS.m1 {w B f s c} {W : World} (h : LS w B f s c W) : W.cell? ⟨B + 1, 1, none⟩ = some (.int .i64 c) := (block_facts h.mo).1 1
theorem LS.ext {w B f s c} {f' : Nat → Int} {W : World} (h : LS w B f s c W) (he : ∀ i, i < 142 → f i = f' i) : LS w B f' s c W :=
  ⟨h.below, h.size, by have := h.st; unfold Bx at this ⊢; rwa [ag_ext kS 142 f f' he] at this, h.mo, h.rz⟩
/-- What a loss makes of a state. -/
def loseF (s c : Int) (st : Nat → Int) : Nat → Int := fun j =>
  if j = 140 then (st 140 * 1664525 + 1013904223) % 4294967296
  else if j = 141 then min (lossOf st) 1000
  else loseTo (nOf s) (nbOf s) (lossOf st) st c.toNat j
def soundsF (s : Int) (st : Nat → Int) (c : Nat) : List (List Int) := (List.range c).map fun i => soundC st (nOf s) i (lossOf st)
theorem modeN26 (s c : Int) (hs : 0 ≤ s ∧ s ≤ 2) (hc : 1 ≤ c ∧ c ≤ 2) (w : World) : Calls Tryd.prog 47 #[.agg #[.int .i64 s, .int .i64 c]] w fun e w' => e = .returned (.int .i64 (nOf s : Nat)) ∧ Below w.heap.size w w' := by
  have hr : mode_Mode_Right.f s c = some true := by
    unfold mode_Mode_Right.f
    rw [if_pos (by omega), if_pos (by omega), if_pos (by omega), decide_eq_true (by omega)]
  have h : mode_Mode_N.f s c = some ((nOf s : Nat) : Int) := by
    unfold mode_Mode_N.f
    rw [hr]
    simp only [Option.bind_some, if_true]
    rw [if_pos hs.1]
    rcases (show s = 0 ∨ s = 1 ∨ s = 2 by omega) with h | h | h <;> subst h <;> rfl
  exact mode_Mode_N.calls s c _ w h
theorem nOf_len (s : Int) : Len (nOf s) := by unfold Len nOf; split <;> (try split) <;> omega
theorem bands26 (s : Int) (c : Int) (hs : 0 ≤ s ∧ s ≤ 2) (hc : 1 ≤ c ∧ c ≤ 2) (w : World) : Calls Tryd.prog 53 #[.agg #[.int .i64 s, .int .i64 c]] w fun e w' => e = .returned (.int .i64 (nbOf s : Nat)) ∧ Below w.heap.size w w' := by
  have h := modeBands s c w
  rwa [show bandsF s c = (nbOf s : Nat) from by unfold bandsF nbOf; rw [if_pos ⟨by omega, by omega, by omega, by omega⟩]; omega] at h
theorem loseTo_hist (n nb : Nat) (L : Int) (st : Nat → Int) (k : Nat) (hn : n ≤ 32) (hb : nb ≤ 5) (hk : k < 2) : ∀ i, i ≤ k → histL (loseTo n nb L st i) n k = histL st n k
  | 0, _ => rfl
  | i + 1, h => by
    rw [loseTo, loseC_hist n nb i k L _ hn hb (by omega) hk (by omega)]
    exact loseTo_hist n nb L st k hn hb hk i (by omega)
theorem LS.below' {w B f s c} {W : World} (h : LS w B f s c W) (hB : w.heap.size ≤ B) : Below w.heap.size w W := h.below.mono hB
theorem plainL (st : Nat → Int) (n nb : Nat) (L : Int) (k B : Nat) (W : World) (hn : Len n) (hk : k < 2) (hb : nb ≤ 5) (hW : Bx B St kS 142 (loseTo n nb L st k) W) (hT : FadeW W) :
    Calls Tryd.prog 90 #[.slice (some ⟨B, 74 + k * 32, none⟩) n 32, .int .i64 L] W fun e w' => ∃ v, e = .returned v ∧ Kd.R (Kd.int .i32) 21 w' W.heap.size (fun _ => True) v (madeF (histL st n k) L) ∧ Below W.heap.size W w' := by
  have hn32 : n ≤ 32 := by unfold Len at hn; omega
  have hC := bx_reads hW .i32 (74 + k * 32) n (by omega) (by decide) (fun j h1 h2 => by unfold kS; rw [if_neg (by omega), if_pos (by omega)])
  have e : ((List.range n).map fun i => loseTo n nb L st k (74 + k * 32 + i)) = histL st n k := loseTo_hist n nb L st k hn32 hb hk k (Nat.le_refl _)
  rw [e] at hC
  have := plain_any (histL st n k) (some ⟨B, 74 + k * 32, none⟩) 32 L W hC (by rw [histL_len]; exact hn32) (by rw [histL_len]; exact hn) hT
  rwa [histL_len] at this
theorem loseTo_E (n nb : Nat) (L : Int) (st : Nat → Int) (h : ∀ j, j < 10 → st j ≤ 9223372036854775807) : ∀ k j, j < 10 → loseTo n nb L st k j ≤ 9223372036854775807
  | 0, j, hj => h j hj
  | k + 1, j, hj => by
    have := loseTo_E n nb L st h k j hj
    rw [loseTo, loseC]
    rw [if_neg (by omega), if_neg (by omega), if_neg (by omega)]
    split <;> omega
/-- The energies of a channel, so many of them smaller. -/
def eTo (f : Nat → Int) (k b : Nat) : Nat → Int := fun j => if k * 5 ≤ j ∧ j < k * 5 + b then max (f j) 2 - 2 else f j
theorem loseTo_high (n nb : Nat) (L : Int) (st : Nat → Int) (hn : n ≤ 32) (hb : nb ≤ 5) (j : Nat) (hj : 140 ≤ j) : ∀ k, k ≤ 2 → loseTo n nb L st k j = st j
  | 0, _ => rfl
  | k + 1, hk => by
    rw [loseTo, loseC, if_neg (by omega), if_neg (by omega), if_neg (by omega), if_neg (by omega)]
    exact loseTo_high n nb L st hn hb j hj k (by omega)
theorem eTo_lose (n nb : Nat) (L : Int) (st : Nat → Int) (k : Nat) (X : List Int) (hX : X.length = n) (hn : n ≤ 32) (hb : nb ≤ 5) (hk : k < 2) (hm : madeF (histL st n k) L = X) (j : Nat) :
    eTo (updI (overF (overF (loseTo n nb L st k) (74 + k * 32) X) (10 + k * 32) (List.replicate n 0)) (138 + k) 0) k nb j = loseTo n nb L st (k + 1) j := by
  rw [loseTo, loseC, loseTo_hist n nb L st k hn hb hk k (Nat.le_refl _)]
  unfold eTo updI overF
  rw [List.length_replicate, hX]
  by_cases h1 : 10 + k * 32 ≤ j ∧ j < 10 + k * 32 + n
  · rw [if_neg (by omega), if_neg (by omega), if_pos h1, if_pos h1]
    simp [List.getD_eq_getElem?_getD, List.getElem?_replicate, show j - (10 + k * 32) < n from by omega]
  · by_cases h2 : 74 + k * 32 ≤ j ∧ j < 74 + k * 32 + n
    · rw [if_neg (by omega), if_neg (by omega), if_neg h1, if_pos h2, if_neg h1, if_pos h2, ← hm]
      have hl : (histL st n k).length = n := histL_len ..
      simp only [madeF, List.getD_eq_getElem?_getD, List.getElem?_map]
      rw [hl, List.getElem?_range (by omega)]
      rfl
    · by_cases h3 : j = 138 + k
      · rw [if_neg (by omega), if_pos h3, if_neg h1, if_neg h2, if_pos h3]
      · rw [if_neg h3, if_neg h1, if_neg h2, if_neg h1, if_neg h2, if_neg h3]
def soundsK (st : Nat → Int) (n : Nat) (L : Int) (k : Nat) : List (List Int) := (List.range k).map fun i => soundC st n i L
theorem soundsK_len (st : Nat → Int) (n : Nat) (L : Int) (k : Nat) : ∀ x ∈ soundsK st n L k, x.length = n := by
  intro x hx
  obtain ⟨i, _, rfl⟩ := List.mem_map.1 hx
  simp [soundC, madeF_len, histL_len]
set_option maxHeartbeats 4000000 in
set_option maxRecDepth 100000 in
theorem lose_any (st : Nat → Int) (s : Int) (c : Nat) (hs : 0 ≤ s ∧ s ≤ 2) (hc : 1 ≤ c ∧ c ≤ 2) (hst0 : ∀ j, j < 10 → st j ≤ 9223372036854775807) (w : World) (hT : FadeW w) :
    Calls Tryd.prog 49 #[.agg (ag kS 142 st), .agg #[.int .i64 s, .int .i64 c]] w fun e w' => ∃ v, e = .returned (.tuple #[.agg (ag kS 142 (loseF s c st)), v]) ∧
      Kd.R (Kd.int .i16) 108 w' w.heap.size (fun _ => True) v (mixF (soundsF s st c) (nOf s)) ∧ Below w.heap.size w w' := by
  have HT := Lib.hid hT
  have hst := Lib.hid hst0
  have hR := Lib.hid (show RightP s c from ⟨by omega, by omega, by omega, by omega⟩)
  have hN := Lib.hid (fun w => modeN26 s c hs (by omega) w)
  have hBn := Lib.hid (fun w => bands26 s c hs (by omega) w)
  have hRt := Lib.hid (fun w => modeRight s c w)
  rw [decide_eq_true hR.out] at hRt
  obtain ⟨n, hn⟩ : ∃ n, nOf s = n := ⟨_, rfl⟩
  obtain ⟨nb, hnb⟩ : ∃ nb, nbOf s = nb := ⟨_, rfl⟩
  rw [hn] at hN
  rw [hnb] at hBn
  have HL := Lib.hid (nOf_len s)
  rw [hn] at HL
  have hn32 : 8 ≤ n ∧ n ≤ 32 := by have := HL.out; unfold Len at this; omega
  have hnb5 : nb ≤ 5 := by unfold nbOf at hnb; omega
  have Hn := Lib.hid hn
  have Hnb := Lib.hid hnb
  have e141 : (ag kS 142 st)[141]? = some (.int .i64 (st 141)) := ag_get _ _ _ _ (by decide)
  clear hT hn hnb hst0
  go_enter Tryd.func49, Tryd.ntmps49
  go_wp2_with (first | (go_at_call 86; refine (hRt.out _).mono ?_; rintro e w' ⟨rfl, hb1⟩; obtain ⟨x1, rfl⟩ := below_as_grew hb1; clear hb1) | (go_at_call 47; refine (hN.out _).mono ?_; rintro e w' ⟨rfl, hb1⟩; obtain ⟨x1, rfl⟩ := below_as_grew hb1; clear hb1))
  refine cut_world (fun V => LS w w.heap.size st s c V) ⟨by (repeat' (first | (with_reducible exact Below.refl _ _) | (with_reducible assumption) | (with_reducible refine Below.alloc ?_ ?_ _) | (with_reducible refine below_grew ?_ ?_ _) | (with_reducible refine Below.setCell ?_ ?_ _) | (with_reducible refine Below.drew ?_) | (with_reducible refine below_drewN ?_ _) | omega | (simp; done) | (simp; omega))), by simp; omega, (World.grew_block _ _ _ (by simp; omega)).trans (alloc_three _ _ _ _), (World.grew_block _ _ _ (by simp)).trans (alloc_second _ _ _ _), (World.grew_block _ _ _ (by simp)).trans (alloc_third _ _ _ _)⟩ ?_
  clear e141
  intro V hV
  generalize hBd : w.heap.size = B at *
  have HBd := Lib.hid hBd
  have HV := Lib.hid hV
  have hVs := hV.size
  clear hBd hV
  generalize hL : min (max (st 141) 0) 1000 + 1 = L
  have HLo := Lib.hid (show lossOf st = L from hL)
  clear hL
  go_loopw [8, 28] (fun vs cnt wr => ∃ k : Nat, k ≤ c ∧ cnt = .int .i64 k ∧ LS w B (loseTo n nb L st k) s c wr ∧ Kd.R (Kd.slice 108 (Kd.int .i16)) 100 wr V.heap.size (fun _ => True) vs (soundsK st n L k) ∧ V.heap.size ≤ wr.heap.size) (fun _ cnt _ => c - (intOf cnt).toNat)
  case atStart => exact ⟨0, by omega, rfl, HV.out, Kd.R_nil _ _ _ _ _, Nat.le_refl _⟩
  case round =>
    obtain ⟨k, hk, rfl, hLS, hS, hsz⟩ := hrel
    have HLS := Lib.hid hLS
    have HS := Lib.hid hS
    have hws := hLS.size
    clear hLS hS
    by_cases hlt : k < c
    · have hlt' : (k : Int) < c := by omega
      have hk0 : (0 : Int) ≤ k := by omega
      have hk2 : (k : Int) < 2 := by omega
      have m1 := HLS.out.m1
      have n0 : (0 : Int) ≤ n := by omega
      have n32 : (n : Int) ≤ 32 := by omega
      have hpl := Lib.hid (fun W hC => plainL st n nb L k B W HL.out (by omega) hnb5 hC)
      go_wp2_with fail
      refine (hpl.out _ HLS.out.st (HT.out.below (HLS.out.below' (Nat.le_of_eq HBd.out)))).mono ?_
      rintro e w1 ⟨v1, rfl, hR1, hb1⟩
      obtain ⟨X, hX⟩ : ∃ X, madeF (histL st n k) L = X := ⟨_, rfl⟩
      have hXl : X.length = n := by rw [← hX, madeF_len, histL_len]
      rw [hX] at hR1
      obtain ⟨A, cx, rfl, hcx, hCx⟩ := Kd.R_reads hR1
      have HX := Lib.hid hX
      have HXl := Lib.hid hXl
      have HCx := Lib.hid hCx
      have hlt1 := HLS.out.keep hb1
      have HLS1 := Lib.hid hlt1
      have hS1 := Kd.R_below HS.out hb1
      have HS1 := Lib.hid hS1
      have hw1 : V.heap.size ≤ w1.heap.size := Nat.le_trans hsz hb1.size
      have hX32 : X.length ≤ 32 := by omega
      clear hX hXl hR1 hCx hb1 hlt1 hS1 HLS HS m1 hpl hws
      go_wp2_with fail
      go_loopw [11, 40] (fun vo cnt wr => ∃ i : Nat, i ≤ X.length ∧ cnt = .int .i64 i ∧ Kd.R (Kd.int .i16) 108 wr w1.heap.size (fun _ => True) vo ((X.take i).map sat16) ∧ Below w1.heap.size w1 wr) (fun _ cnt _ => X.length - (intOf cnt).toNat)
      case atStart => exact ⟨0, by omega, rfl, Kd.R_nil _ _ _ _ _, Below.refl _ _⟩
      case round =>
        obtain ⟨i, hi, rfl, hO, hB⟩ := hrel
        have HO := Lib.hid hO
        have HB := Lib.hid hB
        clear hO hB
        by_cases hlt2 : i < X.length
        · have hlt2' : (i : Int) < X.length := by omega
          have hi0 : (0 : Int) ≤ i := by omega
          obtain ⟨ad, rfl, hcl⟩ := Kd.at_int HCx.out i hi0 hlt2'
          rw [rd_nat, Int.toNat_natCast] at hcl
          have hcl := (HB.out.cell (World.block_lt_of_cell? w1 _ hcl)).trans hcl
          obtain ⟨hz1, hz2⟩ := madeF_bd (histL st n k) L i
          rw [HX.out] at hz1 hz2
          generalize hz : X.getD i 0 = z at *
          have HZ := Lib.hid hz
          have Hsat := Lib.hid (fun w => fix_Sat16.calls z _ w (sat16_eq z))
          clear hz
          go_wp2_with (first | (go_at_call 91; refine (Hsat.out _).mono ?_; rintro e wg ⟨rfl, hbg⟩; have HBG := Lib.hid hbg; clear hbg) | (at_builtin; refine Kd.R_append (Kd.int .i16) (w0 := w1) w1.heap.size rfl (.tmp 44) (.tmp 48) 100 108 (.int .i16 0) 2 rfl Tryd.underlying100 infoI16 rfl (by decide) (by omega) u11 ((X.take i).map sat16) (sat16 z) [.int .i16 (sat16 z)] (fun _ => True) (fun _ => False) rfl rfl ?aP (fun _ hk => hk.elim) ?aF ?aO ?aB ?aS ?aL ?_; (case aP => exact rfl); (case aF => exact (fun _ _ => trivial)); (case aO => exact Kd.R_below HO.out HBG.out); (case aB => exact (HB.out.trans (HBG.out.mono HB.out.size))); (case aS => exact Nat.le_trans HB.out.size HBG.out.size); (case aL => simp; omega); intro v2 w2 hO2 hB2 hgr hat; have HO2 := Lib.hid hO2; have HB2 := Lib.hid hB2; clear hO2 hB2 hgr hat))
          go_roundw
          case rel =>
            refine ⟨i + 1, by omega, rfl, ?_, HB2.out⟩
            have e := HO2.out
            rwa [← List.map_singleton (f := sat16), ← List.map_append, ← HZ.out, ← List.take_succ_eq_append_getElem' X i hlt2] at e
          case measure => simp [intOf]; omega
        · have hlt2' : ¬ (i : Int) < X.length := by omega
          obtain rfl : i = X.length := by omega
          rw [List.take_length] at HO
          obtain ⟨A2, l2, c2, rfl⟩ : ∃ A2 l2 c2, u11 = .slice A2 l2 c2 := by
            obtain ⟨A2, c2, h⟩ := Kd.R_slice HO.out
            exact ⟨_, _, _, h⟩
          have HLS2 := Lib.hid (HLS1.out.keep HB.out)
          have HS2 := Lib.hid (Kd.R_below HS1.out HB.out)
          have HCx2 := Lib.hid (Kd.C_below HCx.out HB.out)
          have hX0 : 0 < X.length := by have := HXl.out; omega
          have hw2 : V.heap.size ≤ wr.heap.size := Nat.le_trans hw1 HB.out.size
          go_wp2_with ((with_reducible refine gate_builtin (b := .copy) (xs := #[.tmp 54, .tmp 55]) rfl ?_); refine copy_bx rfl (.tmp 54) (.tmp 55) 43 43 rfl 21 Tryd.underlying43 (by kernel_rfl) B (74 + k * 32) 32 32 cx A .i32 X rfl rfl HCx2.out ?c1 ?c2 HLS2.out.st ?c3 ?c4 ?c5; (case c1 => exact hX0); (case c2 => exact hX32); (case c3 => omega); (case c4 => intro j h1 h2; unfold kS; rw [if_neg (by omega), if_pos (by omega)]); intro w3 ho3 hb3; have HO3 := Lib.hid ho3; have HB3 := Lib.hid hb3; clear ho3 hb3)
          have hls3 := HLS2.out.only HO3.out HB3.out
          have hcl : ∀ ty, (Builtin.clear_ #[43] ty #[.slice (some ⟨B, 10 + k * 32, none⟩) n 32]).run Tryd.prog w3 = .ok (.tuple #[]) (w3.setCells B (10 + k * 32) (List.replicate n (.int .i32 0))) := fun ty => Lib.run_clear_slice w3 43 21 ty (.int .i32 0) Tryd.underlying43 zeroI32 rfl rfl B (10 + k * 32) n 32 (by omega) (fun j hj => by rw [ag_cell hls3.st _ (by omega)]; rfl) (fun j hj => (block_facts hls3.st).2.1 _)
          have ho4 := only_setCells w3 B (10 + k * 32) (List.replicate n (.int .i32 0))
          have hb4 := bx_setCells hls3.st .i32 (10 + k * 32) (List.replicate n 0) (by simp; omega) (fun j h1 h2 => by simp at h2; unfold kS; rw [if_neg (by omega), if_pos (by omega)])
          rw [List.map_replicate] at hb4
          generalize w3.setCells B (10 + k * 32) (List.replicate n (.int .i32 0)) = w4 at *
          have hls4 := hls3.only ho4 hb4
          have d1 := ag_cell hb4 (138 + k) (by omega)
          have d2 := (block_facts hb4).2.1 (138 + k)
          rw [show kS (138 + k) = .i32 from by unfold kS; rw [if_neg (by omega), if_pos (by omega)]] at d1
          have ho5 := only_setCell w4 ⟨B, 138 + k, none⟩ (.int .i32 0)
          have hb5 := ag_store hb4 (138 + k) (by omega) 0
          rw [show kS (138 + k) = .i32 from by unfold kS; rw [if_neg (by omega), if_pos (by omega)]] at hb5
          have HLS5 := Lib.hid (hls4.only ho5 hb5)
          have hoW : Only B wr (w4.setCell ⟨B, 138 + k, none⟩ (.int .i32 0)) := (HO3.out.trans ho4).trans ho5
          have hSW := R_only HS2.out hoW (by omega)
          have hxW := R_only HO.out hoW (by have := HLS1.out.size; omega)
          obtain ⟨inner, hin⟩ := Kd.R_own HS1.out
          have hxW2 := Kd.R_lower (Kd.R_new hxW hin) hw1
          have HSW := Lib.hid hSW
          have HXW := Lib.hid hxW2
          have HOW := Lib.hid hoW
          have hsW : V.heap.size ≤ (w4.setCell ⟨B, 138 + k, none⟩ (.int .i32 0)).heap.size := by rw [hoW.size]; exact hw2
          have HSz := Lib.hid hsW
          clear hls3 ho4 hls4 ho5 hb5 hoW hSW hxW hxW2 hin hb4 hsW HO HB HLS1 HS1 HCx HLS2 HS2 HCx2
          go_wp2_with (first | (simp only [hcl]) | ((with_reducible refine gate_builtin (b := .append) (xs := #[.tmp 65, .tmp 67]) rfl ?_); at_builtin; refine Kd.R_append (Kd.slice 108 (Kd.int .i16)) (w0 := w4.setCell ⟨B, 138 + k, none⟩ (.int .i32 0)) V.heap.size rfl (.tmp 65) (.tmp 67) 166 100 (.slice none 0 0) 24 rfl Tryd.underlying166 info_sl rfl (by decide) (by omega) u8 (soundsK st n L k) (X.map sat16) [.slice A2 l2 c2] (fun _ => True) (fun b => True ∧ some b ≠ u8.ownBlock) rfl (Eq.trans (b := Value.slice (some ⟨w4.heap.size, 0, none⟩) 1 1) rfl (by simp)) ?aP ?aQ ?aF ?aO ?aB ?aS ?aL ?_; (case aP => exact ⟨_, rfl, HXW.out⟩); (case aQ => exact fun _ h => h); (case aF => exact (fun _ _ => trivial)); (case aO => exact HSW.out); (case aB => exact Below.refl _ _); (case aS => exact HSz.out); (case aL => simp [soundsK]; omega); intro v5 w5 hS5 hB5 hgr hat; have HS5 := Lib.hid hS5; have HLS6 := Lib.hid (HLS5.out.keepB hB5 hVs); have hs5 := Nat.le_trans HSz.out hB5.size; have m0 := HLS6.out.m0; have m1 := HLS6.out.m1; clear hS5 hB5 hgr hat) | (go_at_call 53; refine (hBn.out _).mono ?_; rintro e w6 ⟨rfl, hb6⟩))
          generalize hf5 : updI (overF (overF (loseTo n nb L st k) (74 + k * 32) X) (10 + k * 32) (List.replicate n 0)) (138 + k) 0 = f5 at HLS6
          have hE5 : ∀ j, j < 10 → f5 j ≤ 9223372036854775807 := fun j hj => by
            rw [← hf5]
            unfold updI overF
            rw [if_neg (by omega), if_neg (by omega), if_neg (by omega)]
            exact loseTo_E n nb L st hst.out k j hj
          have HF5 := Lib.hid hf5
          have HE5 := Lib.hid hE5
          clear hf5 hE5 m0 m1 hcl d1 d2
          have hls7 := HLS6.out.keep hb6
          have hs7 := Kd.R_below HS5.out hb6
          have hz7 := Nat.le_trans hs5 hb6.size
          have HLS7 := Lib.hid hls7
          have HS7 := Lib.hid hs7
          clear hls7 hs7 HLS6 HS5 hb6 hs5 HSW HXW HOW HSz HO3 HB3 HLS5
          go_loopw [71] (fun cnt wr => ∃ b : Nat, b ≤ nb ∧ cnt = .int .i64 b ∧ LS w B (eTo f5 k b) s c wr ∧ Kd.R (Kd.slice 108 (Kd.int .i16)) 100 wr V.heap.size (fun _ => True) v5 (soundsK st n L k ++ [X.map sat16]) ∧ V.heap.size ≤ wr.heap.size) (fun cnt _ => nb - (intOf cnt).toNat)
          case atStart => exact ⟨0, by omega, rfl, HLS7.out.ext (fun j hj => by unfold eTo; rw [if_neg (by omega)]), HS7.out, hz7⟩
          case round =>
            obtain ⟨b, hb, rfl, hls, hs8, hz8⟩ := hrel
            have HLS8 := Lib.hid hls
            have HS8 := Lib.hid hs8
            have hwB := hls.size
            clear hls hs8
            by_cases hlt3 : b < nb
            · have hlt3' : (b : Int) < nb := by omega
              have hb0 : (0 : Int) ≤ b := by omega
              have hb5 : (b : Int) < 5 := by omega
              have r0 := ag_cell HLS8.out.st (k * 5 + b) (by omega)
              have r1 := (block_facts HLS8.out.st).2.1 (k * 5 + b)
              rw [show kS (k * 5 + b) = .i64 from by unfold kS; rw [if_pos (by omega)], show eTo f5 k b (k * 5 + b) = f5 (k * 5 + b) from by unfold eTo; rw [if_neg (by omega)]] at r0
              have hy := HE5.out (k * 5 + b) (by omega)
              generalize hyy : f5 (k * 5 + b) = y at r0 hy
              have HY := Lib.hid hyy
              have hwBB : B < wr.heap.size := by omega
              clear hyy
              go_wp2_with fail
              refine wp_region_inv [] (fun W => Below wr.heap.size wr W) (fun W W' => Below W.heap.size W W') 13 (by kernel_rfl) (by kernel_rfl) (by kernel_rfl) ((Below.refl _ _).drew) (fun W W' h h' => h.trans (h'.mono h.size)) (fun _ _ h => h.size) ?_
              simp only [List.take_succ_cons, List.take_zero, List.drop_succ_cons, List.drop_zero]
              refine wpInv_det (by kernel_rfl) (by kernel_rfl) ?_
              apply Exists.intro
              refine ⟨?_, ?_, ?_⟩
              · intro U W hC hH
                have hc1 := (bcell hC).1
                have hf1 := (bcell hC).2
                simp only [HypsU, predsOf, Region.binds, List.filterMap_cons, List.filterMap_nil, if_true, List.nil_append, List.cons_append, List.getD_cons_zero, List.getD_cons_succ] at hH
                simp only [fillPuts, Act.put, List.setIfInBounds_toArray, List.set_cons_zero, List.set_cons_succ, Nat.reduceAdd]
                go_wp2_with fail
                refine ⟨rfl, rfl, by (repeat' (first | (with_reducible exact Below.refl _ _) | (with_reducible assumption) | (with_reducible refine Below.alloc ?_ ?_ _) | (with_reducible refine below_grew ?_ ?_ _) | (with_reducible refine Below.setCell ?_ ?_ _) | (with_reducible refine Below.drew ?_) | (with_reducible refine below_drewN ?_ _) | omega | (simp; done) | (simp; omega))), ?_⟩
                conv => lhs; whnf
                try rfl
              · exact fun _ => rfl
              simp only [List.nil_append, List.cons_append, Nat.reduceAdd]
              refine wpInv_det (by kernel_rfl) (by kernel_rfl) ?_
              apply Exists.intro
              refine ⟨?_, ?_, ?_⟩
              · intro U W hC hH
                have hc1 := (bcell hC).1
                have hf1 := (bcell hC).2
                simp only [HypsU, predsOf, Region.binds, List.filterMap_cons, List.filterMap_nil, if_true, List.nil_append, List.cons_append, List.getD_cons_zero, List.getD_cons_succ] at hH
                simp only [fillPuts, Act.put, List.setIfInBounds_toArray, List.set_cons_zero, List.set_cons_succ, Nat.reduceAdd]
                go_wp2_with fail
                refine ⟨rfl, rfl, by (repeat' (first | (with_reducible exact Below.refl _ _) | (with_reducible assumption) | (with_reducible refine Below.alloc ?_ ?_ _) | (with_reducible refine below_grew ?_ ?_ _) | (with_reducible refine Below.setCell ?_ ?_ _) | (with_reducible refine Below.drew ?_) | (with_reducible refine below_drewN ?_ _) | omega | (simp; done) | (simp; omega))), ?_⟩
                conv => lhs; whnf
                try rfl
              · exact fun _ => rfl
              simp only [List.nil_append, List.cons_append, Nat.reduceAdd]
              refine wpInv_det (by kernel_rfl) (by kernel_rfl) ?_
              apply Exists.intro
              refine ⟨?_, ?_, ?_⟩
              · intro U W hC hH
                have hc1 := (bcell hC).1
                have hf1 := (bcell hC).2
                simp only [HypsU, predsOf, Region.binds, List.filterMap_cons, List.filterMap_nil, if_true, List.nil_append, List.cons_append, List.getD_cons_zero, List.getD_cons_succ] at hH
                simp only [fillPuts, Act.put, List.setIfInBounds_toArray, List.set_cons_zero, List.set_cons_succ, Nat.reduceAdd]
                go_wp2_with fail
                refine ⟨rfl, rfl, by (repeat' (first | (with_reducible exact Below.refl _ _) | (with_reducible assumption) | (with_reducible refine Below.alloc ?_ ?_ _) | (with_reducible refine below_grew ?_ ?_ _) | (with_reducible refine Below.setCell ?_ ?_ _) | (with_reducible refine Below.drew ?_) | (with_reducible refine below_drewN ?_ _) | omega | (simp; done) | (simp; omega))), ?_⟩
                conv => lhs; whnf
                try rfl
              · exact fun _ => rfl
              simp only [List.nil_append, List.cons_append, Nat.reduceAdd]
              refine wpInv_det (by kernel_rfl) (by kernel_rfl) ?_
              apply Exists.intro
              refine ⟨?_, ?_, ?_⟩
              · intro U W hC hH
                have hc1 := (bcell hC).1
                have hf1 := (bcell hC).2
                simp only [HypsU, predsOf, Region.binds, List.filterMap_cons, List.filterMap_nil, if_true, List.nil_append, List.cons_append, List.getD_cons_zero, List.getD_cons_succ] at hH
                simp only [fillPuts, Act.put, List.setIfInBounds_toArray, List.set_cons_zero, List.set_cons_succ, Nat.reduceAdd]
                go_wp2_with fail
                refine ⟨rfl, rfl, by (repeat' (first | (with_reducible exact Below.refl _ _) | (with_reducible assumption) | (with_reducible refine Below.alloc ?_ ?_ _) | (with_reducible refine below_grew ?_ ?_ _) | (with_reducible refine Below.setCell ?_ ?_ _) | (with_reducible refine Below.drew ?_) | (with_reducible refine below_drewN ?_ _) | omega | (simp; done) | (simp; omega))), ?_⟩
                conv => lhs; whnf
                try rfl
              · exact fun _ => rfl
              simp only [List.nil_append, List.cons_append, Nat.reduceAdd]
              refine wpInv_det (by kernel_rfl) (by kernel_rfl) ?_
              apply Exists.intro
              refine ⟨?_, ?_, ?_⟩
              · intro U W hC hH
                have hc1 := (bcell hC).1
                have hf1 := (bcell hC).2
                simp only [HypsU, predsOf, Region.binds, List.filterMap_cons, List.filterMap_nil, if_true, List.nil_append, List.cons_append, List.getD_cons_zero, List.getD_cons_succ] at hH
                simp only [fillPuts, Act.put, List.setIfInBounds_toArray, List.set_cons_zero, List.set_cons_succ, Nat.reduceAdd]
                go_wp2_with fail
                refine ⟨rfl, rfl, by (repeat' (first | (with_reducible exact Below.refl _ _) | (with_reducible assumption) | (with_reducible refine Below.alloc ?_ ?_ _) | (with_reducible refine below_grew ?_ ?_ _) | (with_reducible refine Below.setCell ?_ ?_ _) | (with_reducible refine Below.drew ?_) | (with_reducible refine below_drewN ?_ _) | omega | (simp; done) | (simp; omega))), ?_⟩
                conv => lhs; whnf
                try rfl
              · exact fun _ => rfl
              simp only [List.nil_append, List.cons_append, Nat.reduceAdd]
              refine wpInv_det (by kernel_rfl) (by kernel_rfl) ?_
              apply Exists.intro
              refine ⟨?_, ?_, ?_⟩
              · intro U W hC hH
                have hc1 := (bcell hC).1
                have hf1 := (bcell hC).2
                simp only [HypsU, predsOf, Region.binds, List.filterMap_cons, List.filterMap_nil, if_true, List.nil_append, List.cons_append, List.getD_cons_zero, List.getD_cons_succ] at hH
                simp only [fillPuts, Act.put, List.setIfInBounds_toArray, List.set_cons_zero, List.set_cons_succ, Nat.reduceAdd]
                go_wp2_with fail
                refine ⟨rfl, rfl, by (repeat' (first | (with_reducible exact Below.refl _ _) | (with_reducible assumption) | (with_reducible refine Below.alloc ?_ ?_ _) | (with_reducible refine below_grew ?_ ?_ _) | (with_reducible refine Below.setCell ?_ ?_ _) | (with_reducible refine Below.drew ?_) | (with_reducible refine below_drewN ?_ _) | omega | (simp; done) | (simp; omega))), ?_⟩
                conv => lhs; whnf
                try rfl
              · exact fun _ => rfl
              simp only [List.nil_append, List.cons_append, Nat.reduceAdd]
              refine wpInv_det (by kernel_rfl) (by kernel_rfl) ?_
              apply Exists.intro
              refine ⟨?_, ?_, ?_⟩
              · intro U W hC hH
                have hc1 := (bcell hC).1
                have hf1 := (bcell hC).2
                simp only [HypsU, predsOf, Region.binds, List.filterMap_cons, List.filterMap_nil, if_true, List.nil_append, List.cons_append, List.getD_cons_zero, List.getD_cons_succ] at hH
                simp only [fillPuts, Act.put, List.setIfInBounds_toArray, List.set_cons_zero, List.set_cons_succ, Nat.reduceAdd]
                go_wp2_with fail
                refine ⟨rfl, rfl, by (repeat' (first | (with_reducible exact Below.refl _ _) | (with_reducible assumption) | (with_reducible refine Below.alloc ?_ ?_ _) | (with_reducible refine below_grew ?_ ?_ _) | (with_reducible refine Below.setCell ?_ ?_ _) | (with_reducible refine Below.drew ?_) | (with_reducible refine below_drewN ?_ _) | omega | (simp; done) | (simp; omega))), ?_⟩
                conv => lhs; whnf
                try rfl
              · exact fun _ => rfl
              simp only [List.nil_append, List.cons_append, Nat.reduceAdd]
              refine wpInv_det (by kernel_rfl) (by kernel_rfl) ?_
              apply Exists.intro
              refine ⟨?_, ?_, ?_⟩
              · intro U W hC hH
                have hc1 := (bcell hC).1
                have hf1 := (bcell hC).2
                simp only [HypsU, predsOf, Region.binds, List.filterMap_cons, List.filterMap_nil, if_true, List.nil_append, List.cons_append, List.getD_cons_zero, List.getD_cons_succ] at hH
                simp only [fillPuts, Act.put, List.setIfInBounds_toArray, List.set_cons_zero, List.set_cons_succ, Nat.reduceAdd]
                go_wp2_with fail
                refine ⟨rfl, rfl, by (repeat' (first | (with_reducible exact Below.refl _ _) | (with_reducible assumption) | (with_reducible refine Below.alloc ?_ ?_ _) | (with_reducible refine below_grew ?_ ?_ _) | (with_reducible refine Below.setCell ?_ ?_ _) | (with_reducible refine Below.drew ?_) | (with_reducible refine below_drewN ?_ _) | omega | (simp; done) | (simp; omega))), ?_⟩
                conv => lhs; whnf
                try rfl
              · exact fun _ => rfl
              simp only [List.nil_append, List.cons_append, Nat.reduceAdd]
              refine wpInv_det (by kernel_rfl) (by kernel_rfl) ?_
              apply Exists.intro
              refine ⟨?_, ?_, ?_⟩
              · intro U W hC hH
                have hc1 := (bcell hC).1
                have hf1 := (bcell hC).2
                simp only [HypsU, predsOf, Region.binds, List.filterMap_cons, List.filterMap_nil, if_true, List.nil_append, List.cons_append, List.getD_cons_zero, List.getD_cons_succ] at hH
                simp only [fillPuts, Act.put, List.setIfInBounds_toArray, List.set_cons_zero, List.set_cons_succ, Nat.reduceAdd]
                go_wp2_with fail
                refine ⟨rfl, rfl, by (repeat' (first | (with_reducible exact Below.refl _ _) | (with_reducible assumption) | (with_reducible refine Below.alloc ?_ ?_ _) | (with_reducible refine below_grew ?_ ?_ _) | (with_reducible refine Below.setCell ?_ ?_ _) | (with_reducible refine Below.drew ?_) | (with_reducible refine below_drewN ?_ _) | omega | (simp; done) | (simp; omega))), ?_⟩
                conv => lhs; whnf
                try rfl
              · exact fun _ => rfl
              simp only [List.nil_append, List.cons_append, Nat.reduceAdd]
              refine wpInv_det (by kernel_rfl) (by kernel_rfl) ?_
              apply Exists.intro
              refine ⟨?_, ?_, ?_⟩
              · intro U W hC hH
                have hc1 := (bcell hC).1
                have hf1 := (bcell hC).2
                simp only [HypsU, predsOf, Region.binds, List.filterMap_cons, List.filterMap_nil, if_true, List.nil_append, List.cons_append, List.getD_cons_zero, List.getD_cons_succ] at hH
                simp only [fillPuts, Act.put, List.setIfInBounds_toArray, List.set_cons_zero, List.set_cons_succ, Nat.reduceAdd]
                go_wp2_with fail
                refine ⟨rfl, rfl, by (repeat' (first | (with_reducible exact Below.refl _ _) | (with_reducible assumption) | (with_reducible refine Below.alloc ?_ ?_ _) | (with_reducible refine below_grew ?_ ?_ _) | (with_reducible refine Below.setCell ?_ ?_ _) | (with_reducible refine Below.drew ?_) | (with_reducible refine below_drewN ?_ _) | omega | (simp; done) | (simp; omega))), ?_⟩
                conv => lhs; whnf
                try rfl
              · exact fun _ => rfl
              simp only [List.nil_append, List.cons_append, Nat.reduceAdd]
              refine wpInv_det (by kernel_rfl) (by kernel_rfl) ?_
              apply Exists.intro
              refine ⟨?_, ?_, ?_⟩
              · intro U W hC hH
                have hc1 := (bcell hC).1
                have hf1 := (bcell hC).2
                simp only [HypsU, predsOf, Region.binds, List.filterMap_cons, List.filterMap_nil, if_true, List.nil_append, List.cons_append, List.getD_cons_zero, List.getD_cons_succ] at hH
                simp only [fillPuts, Act.put, List.setIfInBounds_toArray, List.set_cons_zero, List.set_cons_succ, Nat.reduceAdd]
                go_wp2_with fail
                refine ⟨rfl, rfl, by (repeat' (first | (with_reducible exact Below.refl _ _) | (with_reducible assumption) | (with_reducible refine Below.alloc ?_ ?_ _) | (with_reducible refine below_grew ?_ ?_ _) | (with_reducible refine Below.setCell ?_ ?_ _) | (with_reducible refine Below.drew ?_) | (with_reducible refine below_drewN ?_ _) | omega | (simp; done) | (simp; omega))), ?_⟩
                conv => lhs; whnf
                try rfl
              · exact fun _ => rfl
              simp only [List.nil_append, List.cons_append, Nat.reduceAdd]
              refine wpInv_det (by kernel_rfl) (by kernel_rfl) ?_
              apply Exists.intro
              refine ⟨?_, ?_, ?_⟩
              · intro U W hC hH
                have hc1 := (bcell hC).1
                have hf1 := (bcell hC).2
                simp only [HypsU, predsOf, Region.binds, List.filterMap_cons, List.filterMap_nil, if_true, List.nil_append, List.cons_append, List.getD_cons_zero, List.getD_cons_succ] at hH
                simp only [fillPuts, Act.put, List.setIfInBounds_toArray, List.set_cons_zero, List.set_cons_succ, Nat.reduceAdd]
                go_wp2_with fail
                refine ⟨rfl, rfl, by (repeat' (first | (with_reducible exact Below.refl _ _) | (with_reducible assumption) | (with_reducible refine Below.alloc ?_ ?_ _) | (with_reducible refine below_grew ?_ ?_ _) | (with_reducible refine Below.setCell ?_ ?_ _) | (with_reducible refine Below.drew ?_) | (with_reducible refine below_drewN ?_ _) | omega | (simp; done) | (simp; omega))), ?_⟩
                conv => lhs; whnf
                try rfl
              · exact fun _ => rfl
              simp only [List.nil_append, List.cons_append, Nat.reduceAdd]
              refine wpInv_det (by kernel_rfl) (by kernel_rfl) ?_
              apply Exists.intro
              refine ⟨?_, ?_, ?_⟩
              · intro U W hC hH
                have hc1 := (bcell hC).1
                have hf1 := (bcell hC).2
                simp only [HypsU, predsOf, Region.binds, List.filterMap_cons, List.filterMap_nil, if_true, List.nil_append, List.cons_append, List.getD_cons_zero, List.getD_cons_succ] at hH
                simp only [fillPuts, Act.put, List.setIfInBounds_toArray, List.set_cons_zero, List.set_cons_succ, Nat.reduceAdd]
                go_wp2_with fail
                refine ⟨rfl, rfl, by (repeat' (first | (with_reducible exact Below.refl _ _) | (with_reducible assumption) | (with_reducible refine Below.alloc ?_ ?_ _) | (with_reducible refine below_grew ?_ ?_ _) | (with_reducible refine Below.setCell ?_ ?_ _) | (with_reducible refine Below.drew ?_) | (with_reducible refine below_drewN ?_ _) | omega | (simp; done) | (simp; omega))), ?_⟩
                conv => lhs; whnf
                try rfl
              · exact fun _ => rfl
              simp only [List.nil_append, List.cons_append, Nat.reduceAdd]
              simp only [List.nil_append, List.cons_append, Nat.reduceAdd, fillPuts, Act.put, List.setIfInBounds_toArray, List.set_cons_zero, List.set_cons_succ]
              rintro U W2 hC ⟨h0, h1, h2, h3, h4, h5, h6, h7, h8, h9, h10, h11, h12, -⟩ -
              simp only [h0, h1, h2, h3, h4, h5, h6, h7, h8, h9, h10, h11, h12]
              clear h0 h1 h2 h3 h4 h5 h6 h7 h8 h9 h10 h11 h12
              have hls9 := HLS8.out.keep hC
              have HS9 := Lib.hid (Kd.R_below HS8.out hC)
              have hz9 := Nat.le_trans hz8 hC.size
              have q0 := ag_cell hls9.st (k * 5 + b) (by omega)
              have q1 := (block_facts hls9.st).2.1 (k * 5 + b)
              have HLS9 := Lib.hid hls9
              clear hC r0 r1 hls9 HLS8 HS8
              go_wp2_with fail
              go_roundw
              case rel =>
                have ho := only_setCell W2 ⟨B, k * 5 + b, none⟩ (.int .i64 (max y 2 - 2))
                have hbx := ag_store HLS9.out.st (k * 5 + b) (by omega) (max y 2 - 2)
                rw [show kS (k * 5 + b) = .i64 from by unfold kS; rw [if_pos (by omega)]] at hbx
                refine ⟨b + 1, by omega, rfl, (HLS9.out.only ho hbx).ext (fun j hj => ?_), R_only HS9.out ho (show B < V.heap.size by omega), by rw [ho.size]; exact hz9⟩
                unfold updI eTo
                by_cases e : j = k * 5 + b
                · rw [if_pos e, if_pos (by omega), e, HY.out]
                · rw [if_neg e]
                  by_cases e2 : k * 5 ≤ j ∧ j < k * 5 + b
                  · rw [if_pos e2, if_pos (by omega)]
                  · rw [if_neg e2, if_neg (by omega)]
              case measure => simp [intOf]; omega
            · have hlt3' : ¬ (b : Int) < nb := by omega
              obtain rfl : b = nb := by omega
              go_wp2_with fail
              go_roundw
              case rel =>
                refine ⟨k + 1, by omega, rfl, HLS8.out.ext (fun j hj => ?_), ?_, hz8⟩
                · rw [← HF5.out]
                  exact eTo_lose n b L st k X HXl.out (by omega) (by omega) (by omega) HX.out j
                · have := HS8.out
                  unfold soundsK at this ⊢
                  rw [List.range_succ, List.map_append]
                  rw [← HX.out] at this
                  exact this
              case measure => simp [intOf]; omega
    · have hlt' : ¬ (k : Int) < c := by omega
      obtain rfl : k = c := by omega
      have m1 := HLS.out.m1
      have d1 := ag_cell HLS.out.st 140 (by omega)
      rw [show kS 140 = .u32 from rfl, loseTo_high n nb L st (by omega) (by omega) 140 (by omega) k (by omega)] at d1
      go_wp2_with (go_at_call 92; refine (fix_Lcg.calls _ _ _ rfl).mono ?_; rintro e wl ⟨rfl, hdl⟩; have hls10 := HLS.out.keep hdl.below; have q0 := ag_cell hls10.st 140 (by omega); have q1 := ag_cell hls10.st 141 (by omega); have q2 := (block_facts hls10.st).2.1 140; have q3 := (block_facts hls10.st).2.1 141; have HLS10 := Lib.hid hls10; have HS10 := Lib.hid (Kd.R_below HS.out hdl.below); have hz10 := Nat.le_trans hsz hdl.below.size; clear hls10 hdl)
      have ho := (only_setCell wl ⟨B, 140, none⟩ (.int .u32 ((st 140 * 1664525 + 1013904223) % 4294967296))).setCell (.int .i64 (min L 1000)) (p := ⟨B, 141, none⟩)
      have hbx := ag_store (ag_store HLS10.out.st 140 (by omega) ((st 140 * 1664525 + 1013904223) % 4294967296)) 141 (by omega) (min L 1000)
      have hls11 := (HLS10.out.only ho hbx).ext (f' := loseF s k st) (fun j hj => by
        unfold loseF updI
        rw [HLo.out, Hn.out, Hnb.out]
        by_cases e1 : j = 141
        · rw [if_pos e1, if_neg (by omega), if_pos e1]
        · rw [if_neg e1]
          by_cases e2 : j = 140
          · rw [if_pos e2, if_pos e2]
          · rw [if_neg e2, if_neg e2, if_neg e1]; rfl)
      refine cut_world (fun W => LS w B (loseF s k st) s k W ∧ Kd.R (Kd.slice 108 (Kd.int .i16)) 100 W V.heap.size (fun _ => True) u8 (soundsK st n L k) ∧ V.heap.size ≤ W.heap.size) ⟨hls11, R_only HS10.out ho (show B < V.heap.size by omega), by rw [ho.size]; exact hz10⟩ ?_
      clear ho hbx hls11 q0 q1 q2 q3 HLS10 HS10 hz10 d1 m1 HLS HS
      rintro Z ⟨hls, hS, hz⟩
      obtain ⟨A3, c3, rfl, hc3, hC3⟩ := Kd.R_reads hS
      have HLS := Lib.hid hls
      have HC3 := Lib.hid hC3
      have hmx := Lib.hid (fun W hC => state_mix.calls 200 A3 c3 (soundsK st n L k) n (mixF (soundsK st n L k) n) W hC hc3 (mix_f _ n (soundsK_len st n L k) (by simp [soundsK]; omega) (by omega)))
      clear hls hS hC3
      refine wp_region_inv [] (fun W => Below Z.heap.size Z W) (fun W W' => Below W.heap.size W W') 4 (by kernel_rfl) (by kernel_rfl) (by kernel_rfl) ((Below.refl _ _).drew) (fun W W' h h' => h.trans (h'.mono h.size)) (fun _ _ h => h.size) ?_
      simp only [List.take_succ_cons, List.take_zero, List.drop_succ_cons, List.drop_zero]
      refine wpInv_det (by kernel_rfl) (by kernel_rfl) ?_
      apply Exists.intro
      refine ⟨?_, ?_, ?_⟩
      · intro U W hC hH
        have hc1 := (bcell hC).1
        have hf1 := (bcell hC).2
        simp only [HypsU, predsOf, Region.binds, List.filterMap_cons, List.filterMap_nil, if_true, List.nil_append, List.cons_append, List.getD_cons_zero, List.getD_cons_succ] at hH
        simp only [fillPuts, Act.put, List.setIfInBounds_toArray, List.set_cons_zero, List.set_cons_succ, Nat.reduceAdd]
        go_wp2_with (refine wpList_load_row rfl St _ rfl B rfl _ (ag kS 142 (loseF s k st)) (0, 0) _ (HLS.out.keep hC).st Tryd.underlying97 rfl ?hin ?_; (case hin => exact infoS_ag _))
        refine ⟨rfl, rfl, by (repeat' (first | (with_reducible exact Below.refl _ _) | (with_reducible assumption) | (with_reducible refine Below.alloc ?_ ?_ _) | (with_reducible refine below_grew ?_ ?_ _) | (with_reducible refine Below.setCell ?_ ?_ _) | (with_reducible refine Below.drew ?_) | (with_reducible refine below_drewN ?_ _) | omega | (simp; done) | (simp; omega))), ?_⟩
        conv => lhs; whnf
        try rfl
      · exact fun _ => rfl
      simp only [List.nil_append, List.cons_append, Nat.reduceAdd]
      refine wpInv_det (by kernel_rfl) (by kernel_rfl) ?_
      apply Exists.intro
      refine ⟨?_, ?_, ?_⟩
      · intro U W hC hH
        have hc1 := (bcell hC).1
        have hf1 := (bcell hC).2
        simp only [HypsU, predsOf, Region.binds, List.filterMap_cons, List.filterMap_nil, if_true, List.nil_append, List.cons_append, List.getD_cons_zero, List.getD_cons_succ] at hH
        simp only [fillPuts, Act.put, List.setIfInBounds_toArray, List.set_cons_zero, List.set_cons_succ, Nat.reduceAdd]
        go_wp2_with fail
        refine ⟨rfl, rfl, by (repeat' (first | (with_reducible exact Below.refl _ _) | (with_reducible assumption) | (with_reducible refine Below.alloc ?_ ?_ _) | (with_reducible refine below_grew ?_ ?_ _) | (with_reducible refine Below.setCell ?_ ?_ _) | (with_reducible refine Below.drew ?_) | (with_reducible refine below_drewN ?_ _) | omega | (simp; done) | (simp; omega))), ?_⟩
        conv => lhs; whnf
        try rfl
      · exact fun _ => rfl
      simp only [List.nil_append, List.cons_append, Nat.reduceAdd]
      refine wpInv_det (by kernel_rfl) (by kernel_rfl) ?_
      apply Exists.intro
      refine ⟨?_, ?_, ?_⟩
      · intro U W hC hH
        have hc1 := (bcell hC).1
        have hf1 := (bcell hC).2
        simp only [HypsU, predsOf, Region.binds, List.filterMap_cons, List.filterMap_nil, if_true, List.nil_append, List.cons_append, List.getD_cons_zero, List.getD_cons_succ] at hH
        simp only [fillPuts, Act.put, List.setIfInBounds_toArray, List.set_cons_zero, List.set_cons_succ, Nat.reduceAdd]
        go_wp2_with fail
        refine ⟨rfl, rfl, by (repeat' (first | (with_reducible exact Below.refl _ _) | (with_reducible assumption) | (with_reducible refine Below.alloc ?_ ?_ _) | (with_reducible refine below_grew ?_ ?_ _) | (with_reducible refine Below.setCell ?_ ?_ _) | (with_reducible refine Below.drew ?_) | (with_reducible refine below_drewN ?_ _) | omega | (simp; done) | (simp; omega))), ?_⟩
        conv => lhs; whnf
        try rfl
      · exact fun _ => rfl
      simp only [List.nil_append, List.cons_append, Nat.reduceAdd]
      refine ⟨fun U W => ∃ v, U 3 = v ∧ Kd.R (Kd.int .i16) 108 W Z.heap.size (fun _ => True) v (mixF (soundsK st n L k) n), fun _ _ => rfl, ?_, ?_, ?_⟩
      · rintro U W W' hC hT ⟨v, h0, hv⟩
        exact ⟨v, h0, Kd.R_below hv hT⟩
      · intro U W hC hH
        simp only [HypsU, predsOf, Region.binds, List.filterMap_cons, List.filterMap_nil, if_true, List.nil_append, List.cons_append, List.getD_cons_zero, List.getD_cons_succ] at hH
        simp only [fillPuts, Act.put, List.setIfInBounds_toArray, List.set_cons_zero, List.set_cons_succ, Nat.reduceAdd]
        go_wp2_with fail
        refine (hmx.out _ (Kd.C_below HC3.out hC)).mono ?_
        rintro e W' ⟨v, rfl, hv, hb⟩
        go_wp2_with fail
        refine ⟨rfl, rfl, hb, ⟨v, updU_eq _ _ _, Kd.R_lower hv hC.size⟩, fun h => by cases h⟩
      simp only [List.nil_append, List.cons_append, Nat.reduceAdd, fillPuts, Act.put, List.setIfInBounds_toArray, List.set_cons_zero, List.set_cons_succ]
      rintro U W hC ⟨h0, h1, h2, ⟨v, h3, hv⟩, -⟩ -
      simp only [h0, h1, h2, h3]
      clear h0 h1 h2 h3
      have hls := HLS.out.keep hC
      have hzW := Nat.le_trans hz hC.size
      have HLW := Lib.hid hls
      have HV := Lib.hid hv
      clear hls hC hv hmx
      go_wp2_with (refine wpList_store_mid rfl St _ _ rfl (B + 1 + 1) 0 (ag kS 142 (loseF s k st)) rfl rfl ?hth ?hin ?hon ?_; (case hth => exact there_row HLW.out.rz _ (zeroS_le _)); (case hin => exact infoS_ag _); (case hon => exact ag_one kS 142 _))
      have ho := only_setCells W (B + 1 + 1) 0 (ag kS 142 (loseF s k st)).toList
      have q1 := cells_all HLW.out.rz (N := 142) zeroS_size (cs := ag kS 142 (loseF s k st)) (ag_size _ _ _)
      have hfin : Below w.heap.size w (W.setCells (B + 1 + 1) 0 (ag kS 142 (loseF s k st)).toList) := ho.below (HLW.out.below' (Nat.le_of_eq HBd.out)) (by rw [HBd.out]; omega)
      refine bodyPost_ret (v := .tuple #[.agg (ag kS 142 (loseF s k st)), v]) ?_ rfl ⟨v, rfl, ?_, hfin⟩
      · exact results_row_tmp rfl _ _ (B + 1 + 1) _ _ _ _ v rfl rfl q1 Tryd.underlying97 rfl (infoS_ag _)
      · rw [HBd.out]
        have := R_lowT (R_only HV.out ho (by omega)) (show B ≤ Z.heap.size by omega)
        rw [← Hn.out, ← HLo.out] at this
        exact this
end Go.Proofs.YtcibajleknhklaaDoor
end

