/-
  A flat value that came in: its cells are whole numbers and bools, each within its kind's bounds.
-/
import Derived.Test.YtmcjbejccelagaaDoorEq
import Derived.OpenShut
namespace Go
open Go.RowKit
set_option linter.unusedSimpArgs false

/-- A cell of a kind, within its bounds. -/
def Leaf.fitsW : Leaf → Value → Bool
  | .int k, .int k' n => decide (k = k') && (Lit.int k n).wf
  | .bool, .bool _ => true
  | _, _ => false
def fitAllW : List Leaf → List Value → Bool
  | [], [] => true
  | l :: ls, x :: xs => l.fitsW x && fitAllW ls xs
  | _, _ => false
theorem fitAllW_append : ∀ {ls ms : List Leaf} {xs ys : List Value}, fitAllW ls xs = true → fitAllW ms ys = true → fitAllW (ls ++ ms) (xs ++ ys) = true
  | [], ms, [], ys, _, h2 => by simpa using h2
  | l :: ls, ms, x :: xs, ys, h1, h2 => by
    simp only [fitAllW, Bool.and_eq_true] at h1
    simp only [List.cons_append, fitAllW, Bool.and_eq_true]
    exact ⟨h1.1, fitAllW_append h1.2 h2⟩
theorem fitAllW_length : ∀ {ls : List Leaf} {xs : List Value}, fitAllW ls xs = true → xs.length = ls.length
  | [], [], _ => rfl
  | _ :: ls, _ :: xs, h => by
    simp only [fitAllW, Bool.and_eq_true] at h
    simp [fitAllW_length h.2]
theorem fitAllW_at : ∀ {ls : List Leaf} {xs : List Value} (i : Nat) (k : IntKind), fitAllW ls xs = true → ls[i]? = some (.int k) → ∃ n, xs[i]? = some (.int k n) ∧ (Lit.int k n).wf = true
  | l :: ls, x :: xs, 0, k, h, hi => by
    obtain rfl : l = .int k := by simpa using hi
    simp only [fitAllW, Bool.and_eq_true] at h
    have h1 := h.1
    cases x with
    | int k' n =>
      simp only [Leaf.fitsW, Bool.and_eq_true, decide_eq_true_eq] at h1
      obtain ⟨rfl, hw⟩ := h1
      exact ⟨n, rfl, hw⟩
    | _ => exact absurd h1 (by simp [Leaf.fitsW])
  | l :: ls, x :: xs, i + 1, k, h, hi => by
    simp only [fitAllW, Bool.and_eq_true] at h
    simpa using fitAllW_at i k h.2 (by simpa using hi)
theorem fitAllW_fit : ∀ {ls : List Leaf} {xs : List Value}, fitAllW ls xs = true → fitAll ls xs = true
  | [], [], _ => rfl
  | l :: ls, x :: xs, h => by
    simp only [fitAllW, Bool.and_eq_true] at h
    simp only [fitAll, Bool.and_eq_true]
    refine ⟨?_, fitAllW_fit h.2⟩
    have h1 := h.1
    cases l <;> cases x <;> simp_all [Leaf.fits, Leaf.fitsW]
theorem fitAllW_int {k : IntKind} {ls : List Leaf} {xs : List Value} (h : fitAllW (.int k :: ls) xs = true) : ∃ n ys, xs = .int k n :: ys ∧ (Lit.int k n).wf = true ∧ fitAllW ls ys = true := by
  cases xs with
  | nil => simp [fitAllW] at h
  | cons x ys =>
    simp only [fitAllW, Bool.and_eq_true] at h
    obtain ⟨n, h1, h2⟩ := fitAllW_at (ls := [.int k]) (xs := [x]) 0 k (by simp [fitAllW, h.1]) rfl
    obtain rfl : x = .int k n := by simpa using h1
    exact ⟨n, ys, rfl, h2, h.2⟩
theorem fitAllW_nil {xs : List Value} (h : fitAllW [] xs = true) : xs = [] := by
  cases xs with
  | nil => rfl
  | cons x ys => simp [fitAllW] at h

theorem layout_cells {P : Program} {d : Nat} {t : TypeId} {ls : List Leaf} (h : layout P d t = some ls) : P.cellsOf t = ls.length := by
  obtain ⟨i, h1, h2⟩ := layout_info h
  simp [Program.cellsOf, h1, h2]

section
variable {H : Type} {enc : TypeId × Value → H} {P : Program} {w : World} {base : Nat} {spare : Nat → Bool} {held : Bool}

theorem fields_flat {d n : Nat} (IH : ∀ (t : TypeId) (ls : List Leaf) (cs : List Value) (x : DataW H × List MemPlace), layout P d t = some ls → DataW.trod enc P w base spare held n t cs = some x → fitAllW ls cs = true) (cs : List Value) :
    ∀ (fs : List Field) (ls : List (List Leaf)) (xs : List (DataW H × List MemPlace)) (o : Nat), fs.mapM (fun f => layout P d f.type) = some ls → offsOk fs ls o = true → xs.length = fs.length →
      (∀ (i : Nat) (f : Field), fs[i]? = some f → DataW.trod enc P w base spare held n f.type ((cs.drop f.offset).take (P.cellsOf f.type)) = xs[i]?) → fitAllW ls.flatten ((cs.drop o).take ls.flatten.length) = true
  | [], ls, xs, o, h, _, _, _ => by
    simp at h
    subst h
    simp [fitAllW]
  | f :: fs, ls, xs, o, h, ho, hl, hx => by
    rw [List.mapM_cons] at h
    obtain ⟨l, h1, h2⟩ := Option.bind_eq_some_iff.1 h
    obtain ⟨ls', h3, h4⟩ := Option.bind_eq_some_iff.1 h2
    obtain rfl : l :: ls' = ls := by simpa using h4
    simp only [offsOk, Bool.and_eq_true, beq_iff_eq] at ho
    obtain ⟨⟨_, rfl⟩, ho⟩ := ho
    match xs, hl with
    | x :: xs, hl =>
      have hx0 := hx 0 f rfl
      simp only [List.getElem?_cons_zero] at hx0
      rw [layout_cells h1] at hx0
      have a1 := IH _ _ _ _ h1 hx0
      have a2 := fields_flat IH cs fs ls' xs (f.offset + l.length) h3 ho (by simpa using hl) (fun i g hg => by simpa using hx (i + 1) g (by simpa using hg))
      have e : (cs.drop f.offset).take (l :: ls').flatten.length = (cs.drop f.offset).take l.length ++ (cs.drop (f.offset + l.length)).take ls'.flatten.length := by
        rw [List.flatten_cons, List.length_append, List.take_add, List.drop_drop]
      rw [e, List.flatten_cons]
      exact fitAllW_append a1 a2

theorem items_flat {l : List Leaf} (cs : List Value) : ∀ (n o : Nat), (∀ i, i < n → fitAllW l ((cs.drop (o + i * l.length)).take l.length) = true) → fitAllW (List.replicate n l).flatten ((cs.drop o).take (List.replicate n l).flatten.length) = true
  | 0, _, _ => by simp [fitAllW]
  | n + 1, o, h => by
    have a1 := h 0 (by omega)
    have a2 := items_flat cs n (o + l.length) (fun i hi => by
      have := h (i + 1) (by omega)
      rwa [show o + (i + 1) * l.length = o + l.length + i * l.length by rw [Nat.add_mul]; omega] at this)
    simp only [Nat.zero_mul, Nat.add_zero] at a1
    have e : (cs.drop o).take (List.replicate (n + 1) l).flatten.length = (cs.drop o).take l.length ++ (cs.drop (o + l.length)).take (List.replicate n l).flatten.length := by
      rw [List.replicate_succ, List.flatten_cons, List.length_append, List.take_add, List.drop_drop]
    rw [e, List.replicate_succ, List.flatten_cons]
    exact fitAllW_append a1 a2

theorem flat_of_trod : ∀ (d n : Nat) (t : TypeId) (ls : List Leaf) (cs : List Value) (x : DataW H × List MemPlace), layout P d t = some ls → DataW.trod enc P w base spare held n t cs = some x → fitAllW ls cs = true
  | 0, _, _, _, _, _, h, _ => by simp [layout] at h
  | d + 1, n, t, ls, cs, x, h, ht => by
    have hcells := layout_cells h
    unfold layout at h
    split at h
    · rename_i hu
      split at h
      · obtain rfl : [Leaf.bool] = ls := by simpa using h
        cases n with
        | zero => simp [DataW.trod] at ht
        | succ n =>
          unfold DataW.trod at ht
          rw [hu] at ht
          split at ht <;> simp_all [fitAllW, Leaf.fitsW]
      · cases h
    · rename_i k hu
      split at h
      · obtain rfl : [Leaf.int k] = ls := by simpa using h
        obtain ⟨m, rfl, _, hw⟩ := DataW.trod_int hu ht
        simp [fitAllW, Leaf.fitsW, hw]
      · cases h
    · rename_i m e hu
      obtain ⟨l, h1, h2⟩ := Option.bind_eq_some_iff.1 h
      split at h2
      · obtain rfl : (List.replicate m l).flatten = ls := by simpa using h2
        obtain ⟨xs, n', rfl, rfl, hl, hlen, hx⟩ := DataW.trod_array hu ht
        rw [hcells] at hl
        have := items_flat (l := l) cs m 0 (fun i hi => by
          have h3 := hx i hi
          rw [layout_cells h1, List.getElem?_eq_getElem (by omega)] at h3
          rw [Nat.zero_add]
          exact flat_of_trod d n' e l _ _ h1 h3)
        rw [List.drop_zero, ← hl, List.take_length] at this
        exact this
      · cases h2
    · rename_i fs hu
      obtain ⟨ls', h1, h2⟩ := Option.bind_eq_some_iff.1 h
      split at h2
      · rename_i hc
        obtain rfl : ls'.flatten = ls := by simpa using h2
        simp only [Bool.and_eq_true] at hc
        obtain ⟨xs, n', rfl, rfl, hl, hlen, hx⟩ := DataW.trod_struct hu ht
        rw [hcells] at hl
        have := fields_flat (fun t ls cs x => flat_of_trod d n' t ls cs x) cs fs.toList ls' xs 0 h1 hc.1.2 (by simpa using hlen) (fun i f hf => by
          rw [hx i f (by simpa using hf)])
        rw [List.drop_zero, ← hl, List.take_length] at this
        exact this
      · cases h2
    · cases h

/-- A flat struct or array that came in: its cells. -/
theorem open_flat {r : Reach} {b0 : Nat} {t : TypeId} {v : Value} {dd : DataW H} {p : List MemPlace} (d : Nat) (ls : List Leaf) (hl : layout P d t = some ls) (ha : isAggB P t = true)
    (hv : Value.okWide P w r b0 t v) (h : DataW.Trod enc P w base spare held t v dd p) : ∃ cs : List Value, v = .agg cs.toArray ∧ fitAllW ls cs = true := by
  obtain ⟨fuel, hf⟩ := h
  have hcs : ∃ cs, v = .agg cs := by
    unfold isAggB at ha
    unfold Value.okWide at hv
    split at ha <;> simp_all
    · obtain ⟨cs, h, _⟩ := hv; exact ⟨cs, h⟩
    · obtain ⟨cs, h, _⟩ := hv; exact ⟨cs, h⟩
  obtain ⟨cs, rfl⟩ := hcs
  refine ⟨cs.toList, by simp, ?_⟩
  exact flat_of_trod d fuel t ls _ _ hl (by simpa [Value.cells] using hf)
end
end Go
