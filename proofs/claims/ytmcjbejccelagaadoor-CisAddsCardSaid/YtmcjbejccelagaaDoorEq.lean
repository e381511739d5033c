/-
  '==' between two values of a type whose cells are all whole numbers and bools: cell by cell.
-/
import Derived.Test.YtmcjbejccelagaaDoorKit
import Derived.Laws.StructEq
namespace Go
set_option linter.unusedSimpArgs false

inductive Leaf where
  | int (k : IntKind)
  | bool
  deriving DecidableEq
def Leaf.fits : Leaf → Value → Bool
  | .int k, .int k' _ => decide (k = k')
  | .bool, .bool _ => true
  | _, _ => false
/-- Two cells alike. -/
def cellEq : Value → Value → Bool
  | .int _ a, .int _ b => a == b
  | .bool a, .bool b => a == b
  | _, _ => false
def cellsEq : List Value → List Value → Bool
  | [], [] => true
  | x :: xs, y :: ys => cellEq x y && cellsEq xs ys
  | _, _ => false
def fitAll : List Leaf → List Value → Bool
  | [], [] => true
  | l :: ls, x :: xs => l.fits x && fitAll ls xs
  | _, _ => false

/-- The fields' offsets are the sums of what stands ahead; none is blank. -/
def offsOk : List Field → List (List Leaf) → Nat → Bool
  | [], [], _ => true
  | f :: fs, l :: ls, o => f.name != "_" && f.offset == o && offsOk fs ls (o + l.length)
  | _, _, _ => false
/-- The cells of a type of whole numbers and bools. -/
def layout (P : Program) : Nat → TypeId → Option (List Leaf)
  | 0, _ => none
  | d + 1, t =>
    match P.underlying t with
    | some .bool => if (P.info? t).isSome && P.cellsOf t == 1 then some [.bool] else none
    | some (.int k) => if (P.info? t).isSome && P.cellsOf t == 1 then some [.int k] else none
    | some (.array n e) => (layout P d e).bind fun l => if (P.info? t).isSome && P.cellsOf t == (List.replicate n l).flatten.length then some (List.replicate n l).flatten else none
    | some (.struct fs) => (fs.toList.mapM fun f => layout P d f.type).bind fun ls => if (P.info? t).isSome && P.cellsOf t == ls.flatten.length && offsOk fs.toList ls 0 && !P.stoodInHeld t then some ls.flatten else none
    | _ => none
def isAggB (P : Program) (t : TypeId) : Bool := match P.underlying t with | some (.struct _) | some (.array _ _) => true | _ => false
def asVal (P : Program) (t : TypeId) (cs : List Value) : Value := if isAggB P t then .agg cs.toArray else cs.headD undef

theorem fitAll_length : ∀ {ls : List Leaf} {xs : List Value}, fitAll ls xs = true → xs.length = ls.length
  | [], [], _ => rfl
  | _ :: ls, _ :: xs, h => by
    simp only [fitAll, Bool.and_eq_true] at h
    simp [fitAll_length h.2]
theorem fits_bool {v : Value} (h : Leaf.bool.fits v = true) : ∃ b, v = .bool b := by
  cases v with
  | bool b => exact ⟨b, rfl⟩
  | _ => exact absurd h (by simp [Leaf.fits])
theorem fits_int {k : IntKind} {v : Value} (h : (Leaf.int k).fits v = true) : ∃ n, v = .int k n := by
  cases v with
  | int k' n =>
    have : k = k' := by simpa [Leaf.fits] using h
    exact ⟨n, by rw [this]⟩
  | _ => exact absurd h (by simp [Leaf.fits])
theorem fit_one {l : Leaf} {xs : List Value} (h : fitAll [l] xs = true) : ∃ x, xs = [x] ∧ l.fits x = true := by
  cases xs with
  | nil => simp [fitAll] at h
  | cons x xs =>
    cases xs with
    | nil => exact ⟨x, rfl, by simpa [fitAll] using h⟩
    | cons y ys => simp [fitAll] at h
theorem fitAll_append : ∀ {ls ms : List Leaf} {xs : List Value}, fitAll (ls ++ ms) xs = true → fitAll ls (xs.take ls.length) = true ∧ fitAll ms (xs.drop ls.length) = true
  | [], ms, xs, h => by simpa [fitAll] using h
  | l :: ls, ms, x :: xs, h => by
    simp only [List.cons_append, fitAll, Bool.and_eq_true] at h
    obtain ⟨h1, h2⟩ := fitAll_append h.2
    exact ⟨by simp [fitAll, h.1, h1], by simpa using h2⟩
theorem cellsEq_append : ∀ (xs ys us vs : List Value), xs.length = ys.length → cellsEq (xs ++ us) (ys ++ vs) = (cellsEq xs ys && cellsEq us vs)
  | [], [], us, vs, _ => by simp [cellsEq]
  | x :: xs, y :: ys, us, vs, h => by
    simp only [List.cons_append, cellsEq]
    rw [cellsEq_append xs ys us vs (by simpa using h), Bool.and_assoc]

section
variable {P : Program} (w : World)
theorem layout_info {d : Nat} {t : TypeId} {ls : List Leaf} (h : layout P d t = some ls) : ∃ i, P.info? t = some i ∧ i.size = ls.length := by
  cases d with
  | zero => simp [layout] at h
  | succ d =>
    have key : ∀ n : Nat, ((P.info? t).isSome && P.cellsOf t == n) = true → ∃ i, P.info? t = some i ∧ i.size = n := by
      intro n hn
      simp only [Bool.and_eq_true, beq_iff_eq] at hn
      obtain ⟨i, hi⟩ := Option.isSome_iff_exists.1 hn.1
      exact ⟨i, hi, by rw [← hn.2]; simp [Program.cellsOf, hi]⟩
    simp only [layout] at h
    split at h
    · split at h
      · cases h; exact key 1 (by assumption)
      · cases h
    · split at h
      · cases h; exact key 1 (by assumption)
      · cases h
    · simp only [Option.bind_eq_some_iff] at h
      obtain ⟨l, _, h⟩ := h
      split at h
      · cases h; exact key _ (by assumption)
      · cases h
    · simp only [Option.bind_eq_some_iff] at h
      obtain ⟨l, _, h⟩ := h
      split at h
      · rename_i hc
        cases h
        simp only [Bool.and_eq_true] at hc
        exact key _ (by simp only [Bool.and_eq_true]; exact hc.1.1)
      · cases h
    · cases h

theorem run_part_flat {d : Nat} {e : TypeId} {ls : List Leaf} (h : layout P d e = some ls) (cs : Array Value) (off : Nat) (hf : fitAll ls ((cs.toList.drop off).take ls.length) = true) :
    (part e cs off).run P w = .ok (asVal P e ((cs.toList.drop off).take ls.length)) w := by
  obtain ⟨i, hi, hs⟩ := layout_info h
  have hlen := fitAll_length hf
  cases d with
  | zero => simp [layout] at h
  | succ d =>
    have hex : (cs.extract off (off + ls.length)).toList = (cs.toList.drop off).take ls.length := by simp [List.drop_take]
    simp only [layout] at h
    unfold part asVal isAggB
    have one : ∀ (l : Leaf), ls = [l] → ∃ v, cs[off]? = some v ∧ (cs.toList.drop off).take ls.length = [v] := by
      intro l hl
      subst hl
      cases hd : cs.toList.drop off with
      | nil => rw [hd] at hlen; simp at hlen
      | cons v r =>
        refine ⟨v, ?_, by simp⟩
        have : (cs.toList.drop off)[0]? = some v := by rw [hd]; rfl
        simpa using this
    split at h
    · rename_i hu
      split at h
      · cases h
        obtain ⟨v, hv, he⟩ := one _ rfl
        simp only [Sem.run_bind, isAgg, run_underlying hu, Result.andThen_ok, Sem.run_pure, hu, Bool.false_eq_true, if_false, hv]
        rw [he]; rfl
      · cases h
    · rename_i hu
      split at h
      · cases h
        obtain ⟨v, hv, he⟩ := one _ rfl
        simp only [Sem.run_bind, isAgg, run_underlying hu, Result.andThen_ok, Sem.run_pure, hu, Bool.false_eq_true, if_false, hv]
        rw [he]; rfl
      · cases h
    · rename_i hu
      simp only [Sem.run_bind, isAgg, run_underlying hu, Result.andThen_ok, Sem.run_pure, hu, if_true, sizeOf, typeInfo, hi]
      simp only [Sem.run_bind, run_program, Result.andThen_ok, hi, Sem.run_pure, hs]
      rw [← hex]
    · rename_i hu
      simp only [Sem.run_bind, isAgg, run_underlying hu, Result.andThen_ok, Sem.run_pure, hu, if_true, sizeOf, typeInfo, hi]
      simp only [Sem.run_bind, run_program, Result.andThen_ok, hi, Sem.run_pure, hs]
      rw [← hex]
    · cases h

/-- What is to be shown of a type, at a depth. -/
def EqFlat (P : Program) (d : Nat) (t : TypeId) (ls : List Leaf) : Prop :=
  ∀ D, d ≤ D → ∀ (w : World) (xs ys : List Value), fitAll ls xs = true → fitAll ls ys = true → (Op.equalIn D t (asVal P t xs) (asVal P t ys)).run P w = .ok (cellsEq xs ys) w

theorem eqItems_flat {d D : Nat} {e : TypeId} {l : List Leaf} (hl : layout P d e = some l) (IH : EqFlat P d e l) (hD : d ≤ D) (hc : P.cellsOf e = l.length) (xs ys : Array Value) :
    ∀ (m k : Nat), fitAll (List.replicate m l).flatten (xs.toList.drop (k * l.length)) = true → fitAll (List.replicate m l).flatten (ys.toList.drop (k * l.length)) = true →
      (Op.eqItems D e (P.cellsOf e) xs ys (List.range' k m)).run P w = .ok (cellsEq (xs.toList.drop (k * l.length)) (ys.toList.drop (k * l.length))) w
  | 0, k, hx, hy => by
    have h1 : xs.toList.drop (k * l.length) = [] := List.length_eq_zero_iff.1 (by simpa using fitAll_length hx)
    have h2 : ys.toList.drop (k * l.length) = [] := List.length_eq_zero_iff.1 (by simpa using fitAll_length hy)
    rw [h1, h2]
    simp [Op.eqItems, cellsEq]
  | m + 1, k, hx, hy => by
    rw [List.replicate_succ, List.flatten_cons] at hx hy
    obtain ⟨x1, x2⟩ := fitAll_append hx
    obtain ⟨y1, y2⟩ := fitAll_append hy
    have hk : k * l.length + l.length = (k + 1) * l.length := by rw [Nat.add_mul]; omega
    rw [List.drop_drop, hk] at x2 y2
    have ih := eqItems_flat hl IH hD hc xs ys m (k + 1) x2 y2
    have ex : xs.toList.drop (k * l.length) = (xs.toList.drop (k * l.length)).take l.length ++ xs.toList.drop ((k + 1) * l.length) := by
      rw [← hk, ← List.drop_drop, List.take_append_drop]
    have ey : ys.toList.drop (k * l.length) = (ys.toList.drop (k * l.length)).take l.length ++ ys.toList.drop ((k + 1) * l.length) := by
      rw [← hk, ← List.drop_drop, List.take_append_drop]
    rw [ex, ey, cellsEq_append _ _ _ _ ((fitAll_length x1).trans (fitAll_length y1).symm)]
    simp only [List.range'_succ, Op.eqItems, Sem.run_bind]
    rw [hc] at ih ⊢
    rw [run_part_flat w hl xs (k * l.length) x1, Result.andThen_ok, run_part_flat w hl ys (k * l.length) y1, Result.andThen_ok, IH D hD w _ _ x1 y1, Result.andThen_ok]
    cases cellsEq ((xs.toList.drop (k * l.length)).take l.length) ((ys.toList.drop (k * l.length)).take l.length)
    · simp
    · simp only [Bool.not_true, Bool.false_eq_true, if_false, Bool.true_and]
      exact ih

theorem eqFields_flat {d D : Nat} (hD : d ≤ D) (xs ys : Array Value) :
    ∀ (fs : List Field) (ls : List (List Leaf)) (o : Nat), fs.mapM (fun f => layout P d f.type) = some ls → offsOk fs ls o = true → (∀ f l, f ∈ fs → layout P d f.type = some l → EqFlat P d f.type l) →
      fitAll ls.flatten (xs.toList.drop o) = true → fitAll ls.flatten (ys.toList.drop o) = true →
      (Op.eqFields D xs ys fs).run P w = .ok (cellsEq (xs.toList.drop o) (ys.toList.drop o)) w
  | [], ls, o, hm, _, _, hx, hy => by
    simp at hm
    subst hm
    have h1 : xs.toList.drop o = [] := List.length_eq_zero_iff.1 (by simpa using fitAll_length hx)
    have h2 : ys.toList.drop o = [] := List.length_eq_zero_iff.1 (by simpa using fitAll_length hy)
    rw [h1, h2]
    simp [Op.eqFields, cellsEq]
  | f :: fs, ls, o, hm, ho, IH, hx, hy => by
    rw [List.mapM_cons] at hm
    simp only [bind, Option.bind_eq_some_iff, pure, Option.some.injEq] at hm
    obtain ⟨l, hl, ls', hls, rfl⟩ := hm
    simp only [offsOk, Bool.and_eq_true, bne_iff_ne, beq_iff_eq] at ho
    obtain ⟨⟨hn, hoff⟩, ho⟩ := ho
    rw [List.flatten_cons] at hx hy
    obtain ⟨x1, x2⟩ := fitAll_append hx
    obtain ⟨y1, y2⟩ := fitAll_append hy
    rw [List.drop_drop] at x2 y2
    have ih := eqFields_flat hD xs ys fs ls' (o + l.length) hls ho (fun g l' hg => IH g l' (by simp [hg])) x2 y2
    have ex : xs.toList.drop o = (xs.toList.drop o).take l.length ++ xs.toList.drop (o + l.length) := by rw [← List.drop_drop, List.take_append_drop]
    have ey : ys.toList.drop o = (ys.toList.drop o).take l.length ++ ys.toList.drop (o + l.length) := by rw [← List.drop_drop, List.take_append_drop]
    rw [ex, ey, cellsEq_append _ _ _ _ ((fitAll_length x1).trans (fitAll_length y1).symm)]
    simp only [Op.eqFields, hn, ne_eq, not_false_eq_true, if_true, Sem.run_bind]
    rw [hoff, run_part_flat w hl xs o x1, Result.andThen_ok, run_part_flat w hl ys o y1, Result.andThen_ok, IH f l (by simp) hl D hD w _ _ x1 y1, Result.andThen_ok]
    cases cellsEq ((xs.toList.drop o).take l.length) ((ys.toList.drop o).take l.length)
    · simp
    · simp only [Bool.not_true, Bool.false_eq_true, if_false, Bool.true_and]
      exact ih
end

theorem run_equalIn_flat {P : Program} : ∀ (d : Nat) (t : TypeId) (ls : List Leaf), layout P d t = some ls → EqFlat P d t ls
  | 0, t, ls, h => by simp [layout] at h
  | d + 1, t, ls, h => by
    intro D hD w xs ys hx hy
    obtain ⟨D, rfl⟩ : ∃ E, D = E + 1 := ⟨D - 1, by omega⟩
    have hD' : d ≤ D := by omega
    simp only [layout] at h
    unfold asVal isAggB
    split at h
    · rename_i hu
      split at h
      · cases h
        obtain ⟨x, rfl, fx⟩ := fit_one hx
        obtain ⟨y, rfl, fy⟩ := fit_one hy
        · obtain ⟨a, rfl⟩ := fits_bool fx
          obtain ⟨b, rfl⟩ := fits_bool fy
          simp [hu, Op.equalIn, run_underlying hu, cellsEq, cellEq]
      · cases h
    · rename_i hu
      split at h
      · cases h
        obtain ⟨x, rfl, fx⟩ := fit_one hx
        obtain ⟨y, rfl, fy⟩ := fit_one hy
        · obtain ⟨a, rfl⟩ := fits_int fx
          obtain ⟨b, rfl⟩ := fits_int fy
          simp [hu, Op.equalIn, run_underlying hu, cellsEq, cellEq]
      · cases h
    · rename_i n e hu
      simp only [Option.bind_eq_some_iff] at h
      obtain ⟨l, hl, h⟩ := h
      split at h
      · cases h
        obtain ⟨i, hi, hs⟩ := layout_info hl
        simp only [hu, if_true]
        rw [run_equalIn_array w D _ _ hu hi, List.range_eq_range']
        have := eqItems_flat w hl (run_equalIn_flat d e l hl) hD' (by simp [Program.cellsOf, hi, hs]) xs.toArray ys.toArray n 0 (by simpa using hx) (by simpa using hy)
        simpa using this
      · cases h
    · rename_i fs hu
      simp only [Option.bind_eq_some_iff] at h
      obtain ⟨l, hl, h⟩ := h
      split at h
      · rename_i hc
        cases h
        simp only [Bool.and_eq_true, Bool.not_eq_true'] at hc
        have hfs : P.fieldsOf t = fs := by simp [Program.fieldsOf, hu]
        simp only [hu, if_true]
        rw [run_equalIn_struct w D t _ _ (by rw [hfs]; exact hu) hc.2, hfs]
        have := eqFields_flat w hD' xs.toArray ys.toArray fs.toList l 0 hl hc.1.2 (fun f l' _ h' => run_equalIn_flat d f.type l' h') (by simpa using hx) (by simpa using hy)
        simpa using this
      · cases h
    · cases h

attribute [go_sem] cellsEq cellEq
/-- '==' of two values of such a type, as the walk meets it. -/
theorem eq_flat {P : Program} (t : TypeId) (d : Nat) (ls : List Leaf) (hl : layout P d t = some ls) (hd : d ≤ 10000) (ha : isAggB P t = true) (xs ys : List Value) (hx : fitAll ls xs = true) (hy : fitAll ls ys = true) (w : World) :
    (Op.equalIn 10000 t (.agg xs.toArray) (.agg ys.toArray)).run P w = .ok (cellsEq xs ys) w := by
  have h := run_equalIn_flat d t ls hl 10000 hd w xs ys hx hy
  unfold asVal at h
  simpa [ha] using h
end Go
