/-
  A region that draws its order, by what holds of each operation's value: one step for each operation, whatever came before it; then a tail in order.
-/
import Derived.Test.YtmcjbejccelagaaDoorKit
namespace Go
open Go.RowKit

theorem bcell {W w1 : World} (hb : Below W.heap.size W w1) : (∀ b o, b < W.heap.size → w1.cell? ⟨b, o, none⟩ = W.cell? ⟨b, o, none⟩) ∧ (∀ b o, b < W.heap.size → w1.frozen? ⟨b, o, none⟩ = W.frozen? ⟨b, o, none⟩) :=
  ⟨fun b o h => hb.cell (p := ⟨b, o, none⟩) h, fun b o h => hb.frozen (p := ⟨b, o, none⟩) h⟩
theorem alloc_at (w : World) (o : Obj) : (w.alloc o).heap[w.heap.size]? = some o := by show (w.heap.push o)[w.heap.size]? = _; simp
/-- U: what stands in each operation's slot. -/
def fillPuts : List Oper → (Nat → Value) → Nat → Act → Act
  | [], _, _, a => a
  | o :: l, U, i, a => fillPuts l U (i + 1) (a.put o.dst (U i))
def updU (U : Nat → Value) (i : Nat) (v : Value) : Nat → Value := fun j => if j = i then v else U j
def maskU (S : List Nat) (U : Nat → Value) : Nat → Value := fun j => if S.contains j then U j else undef
def predsOf (o : Oper) : List Nat := o.after.toList.filterMap fun e => if Region.binds .any e then some e.on else none
def slotOf (a : Act) (dst : Option Tmp) : Value := match dst with | some d => a.tmps.getD d undef | none => undef
abbrev RelU := (Nat → Value) → World → Prop
def HypsU (Rs : List RelU) (U : Nat → Value) (w : World) : List Nat → Prop
  | [] => True
  | p :: ps => (Rs.getD p fun _ _ => True) U w ∧ HypsU Rs U w ps
def AllU (U : Nat → Value) (w : World) : List RelU → Prop
  | [] => True
  | r :: rs => r U w ∧ AllU U w rs
def InvPost (T : World → World → Prop) (d : List Deferred) (w : World) (dst : Option Tmp) (G : Value → World → Prop) (e : Exit) (a' : Act) (w' : World) : Prop :=
  e = .normal ∧ a'.defers = d ∧ T w w' ∧ G (slotOf a' dst) w'

/-- The block that a value points into. -/
def blkOf : Value → Option Nat
  | .pointer (some a) => some a.block
  | .slice (some a) _ _ => some a.block
  | .map (some m) => some m
  | _ => none
/-- A value that points into a block made between two worlds. -/
def FreshV (v : Value) (w w' : World) : Prop := ∃ p, blkOf v = some p ∧ w.heap.size ≤ p ∧ p < w'.heap.size
/-- The fresh values differ. -/
def ApartF (F : List Nat) (U : Nat → Value) : Prop := ∀ i j, F.contains i = true → F.contains j = true → i ≠ j → blkOf (U i) ≠ blkOf (U j)

section
variable {P : Program} {ops : Array Oper}

/-- The walk: for each operation of the head what holds of its value. -/
def wpInv (P : Program) (ops : Array Oper) (F : List Nat) (C : World → Prop) (T : World → World → Prop) (hd : List Oper) (a0 : Act) (fin : (Nat → Value) → World → Prop) : Nat → List RelU → List Oper → Prop
  | _, Rs, [] => ∀ U w, C w → AllU U w Rs → ApartF F U → fin U w
  | i, Rs, o :: rest => ∃ r : RelU, (∀ U w, r U w = r (maskU (i :: predsOf o) U) w) ∧ (∀ U w w', C w → T w w' → r U w → r U w') ∧
      (∀ U w, C w → HypsU Rs U w (predsOf o) → wpList P ops (InvPost T a0.defers w o.dst fun v w' => r (updU U i v) w' ∧ (F.contains i = true → FreshV v w w')) [o] (fillPuts hd U 0 a0) w) ∧
      wpInv P ops F C T hd a0 fin (i + 1) (Rs ++ [r]) rest

theorem fillPuts_defers : ∀ (l : List Oper) (U : Nat → Value) (i : Nat) (a : Act), (fillPuts l U i a).defers = a.defers
  | [], _, _, _ => rfl
  | o :: l, U, i, a => by
    rw [fillPuts, fillPuts_defers l]
    unfold Act.put; split <;> rfl

theorem Act.put_put (a : Act) (d : Option Tmp) (u v : Value) : (a.put d u).put d v = a.put d v := by
  unfold Act.put
  cases d with
  | none => rfl
  | some d => simp

/-- No slot is written twice. -/
def distinctDst : List Oper → Bool
  | [] => true
  | o :: l => (match o.dst with | some d => l.all (fun p => p.dst != some d) | none => true) && distinctDst l

theorem put_fill_comm {d : Option Tmp} {v : Value} : ∀ (l : List Oper) (U : Nat → Value) (i : Nat) (a : Act), (∀ t, d = some t → l.all (fun p => p.dst != some t) = true) →
    fillPuts l U i (a.put d v) = (fillPuts l U i a).put d v
  | [], _, _, _, _ => rfl
  | o :: l, U, i, a, h => by
    simp only [fillPuts]
    rw [← put_fill_comm l U (i + 1) (a.put o.dst (U i)) (fun t ht => by
      have := h t ht
      simp only [List.all_cons, Bool.and_eq_true] at this
      exact this.2)]
    congr 1
    refine Act.put_comm a v (U i) ?_
    intro t ht ht2
    have := h t ht
    simp only [List.all_cons, Bool.and_eq_true, bne_iff_ne, ne_eq] at this
    exact this.1 ht2

theorem fillPuts_upd_lt : ∀ (l : List Oper) (U : Nat → Value) (k i : Nat) (v : Value) (a : Act), k < i → fillPuts l (updU U k v) i a = fillPuts l U i a
  | [], _, _, _, _, _, _ => rfl
  | o :: l, U, k, i, v, a, h => by
    simp only [fillPuts]
    rw [fillPuts_upd_lt l U k (i + 1) v _ (by omega)]
    have : updU U k v i = U i := by unfold updU; rw [if_neg (by omega)]
    rw [this]

theorem fillPuts_put : ∀ (l : List Oper) (U : Nat → Value) (i k : Nat) (o : Oper) (v : Value) (a : Act), distinctDst l = true → l[k]? = some o →
    (fillPuts l U i a).put o.dst v = fillPuts l (updU U (i + k) v) i a
  | [], _, _, _, _, _, _, _, h => by simp at h
  | p :: l, U, i, 0, o, v, a, hd, h => by
    obtain rfl : p = o := by simpa using h
    simp only [distinctDst, Bool.and_eq_true] at hd
    simp only [fillPuts, Nat.add_zero]
    rw [fillPuts_upd_lt l U i (i + 1) v _ (by omega), ← put_fill_comm l U (i + 1) _ (fun t ht => by have := hd.1; rw [ht] at this; simpa using this), Act.put_put]
    have : updU U i v i = v := by unfold updU; rw [if_pos rfl]
    rw [this]
  | p :: l, U, i, k + 1, o, v, a, hd, h => by
    simp only [distinctDst, Bool.and_eq_true] at hd
    simp only [fillPuts]
    rw [fillPuts_put l U (i + 1) k o v _ hd.2 (by simpa using h), show i + 1 + k = i + (k + 1) by omega]
    have : updU U (i + (k + 1)) v i = U i := by unfold updU; rw [if_neg (by omega)]
    rw [this]

theorem put_slot (a : Act) (d : Option Tmp) (v : Value) : a.put d (slotOf (a.put d v) d) = a.put d v := by
  cases d with
  | none => rfl
  | some d =>
    simp only [Act.put, slotOf]
    by_cases h : d < a.tmps.size
    · simp [h]
    · rw [Array.setIfInBounds_eq_of_size_le (Nat.le_of_not_lt h), Array.setIfInBounds_eq_of_size_le (Nat.le_of_not_lt h)]

theorem updU_eq (U : Nat → Value) (i : Nat) (v : Value) : updU U i v i = v := by unfold updU; rw [if_pos rfl]

theorem maskU_upd {S : List Nat} {U : Nat → Value} {i : Nat} {v : Value} (h : S.contains i = false) : maskU S (updU U i v) = maskU S U := by
  funext j
  unfold maskU updU
  by_cases e : j = i
  · subst e; rw [h]; rfl
  · rw [if_neg e]

theorem wpOp_of_list_inv {i : Nat} {o : Oper} {K : Act → World → Prop} {Q : Exit → Act → World → Prop} {a : Act} {w : World} {T : World → World → Prop} {d : List Deferred} {G : Value → World → Prop}
    (hi : ops[i]? = some o) (hd : a.defers = d)
    (hK : ∀ v w', T w w' → G (slotOf (a.put o.dst v) o.dst) w' → K (a.put o.dst v) w')
    (h : wpList P ops (InvPost T d w o.dst G) [o] a w) : wpOp P ops Q i K a w := by
  have hQ : ∀ v w', InvPost T d w o.dst G .normal (a.put o.dst v) w' → K (a.put o.dst v) w' := fun v w' h => hK v w' h.2.2.1 h.2.2.2
  have hF : ¬ LetsOut (InvPost T d w o.dst G) := by
    rintro ⟨a1, w1, h1⟩
    exact absurd h1.1 (by simp)
  unfold wpOp
  simp only [hi]
  unfold wpList at h
  split
  · rename_i hw
    rw [if_pos hw] at h
    rcases h with h | ⟨_, h⟩
    · refine .inl ?_
      unfold Oper.wp at *
      generalize (execOp a.eval o).run P w = r at *
      cases r with
      | ok n w' =>
        cases n <;> simp only [Oper.upon] at h ⊢
        case value u => exact hQ _ _ h
        case skip => exact hQ _ _ h
        case defer c =>
          have h2 : (({ a with defers := c :: a.defers } : Act).put o.dst undef).defers = d := h.2.1
          have h3 : (({ a with defers := c :: a.defers } : Act).put o.dst undef).defers = c :: a.defers := by unfold Act.put; split <;> rfl
          rw [h3, ← hd] at h2
          exact absurd (congrArg List.length h2) (by simp)
        case enter f args =>
          refine Calls.mono h fun e w'' he => ?_
          cases e with
          | returned u => exact hQ _ _ he
          | panicked c => exact absurd he.1 (by simp)
          | outgrown => exact absurd he hF
        case row row args => exact Rows.mono h fun u w'' he => hQ _ _ he
      | halt x w' =>
        cases x <;> simp only [Oper.upon] at h ⊢
        case panic u => exact absurd h.1 (by simp)
    · exact absurd h hF
  · rename_i hw
    rw [if_neg hw] at h
    exact hQ _ _ h

theorem wpList_post {o : Oper} {a : Act} {w : World} {T : World → World → Prop} {d : List Deferred} {dst : Option Tmp} {G G' : Value → World → Prop}
    (hG : ∀ a' w', InvPost T d w dst G .normal a' w' → InvPost T d w dst G' .normal a' w') (h : wpList P ops (InvPost T d w dst G) [o] a w) : wpList P ops (InvPost T d w dst G') [o] a w := by
  have hF : ¬ LetsOut (InvPost T d w dst G) := by
    rintro ⟨a1, w1, h1⟩
    exact absurd h1.1 (by simp)
  unfold wpList at h ⊢
  split
  · rename_i hw
    rw [if_pos hw] at h
    rcases h with h | ⟨_, h⟩
    · refine .inl ?_
      unfold Oper.wp at *
      generalize (execOp a.eval o).run P w = r at *
      cases r with
      | ok n w' =>
        cases n <;> simp only [Oper.upon] at h ⊢
        case value u => exact hG _ _ h
        case skip => exact hG _ _ h
        case defer c => exact hG _ _ h
        case enter f args =>
          refine Calls.mono h fun e w'' he => ?_
          cases e with
          | returned u => exact hG _ _ he
          | panicked c => exact absurd he.1 (by simp)
          | outgrown => exact absurd he hF
        case row row args => exact Rows.mono h fun u w'' he => hG _ _ he
      | halt x w' =>
        cases x <;> simp only [Oper.upon] at h ⊢
        case panic u => exact absurd h.1 (by simp)
    · exact absurd h hF
  · rename_i hw
    rw [if_neg hw] at h
    exact hG _ _ h
/-- Every edge leads back. -/
def backB (ops : Array Oper) : Bool := (List.range ops.size).all fun i => ((ops[i]?).map fun o => o.after.all fun e => !Region.binds .any e || decide (e.on < i)).getD true
def seqAfter (ops : Array Oper) (n : Nat) : Bool := Region.seqB .any ops (ops.size - n) n ((List.range ops.size).map fun i => decide (i < n)).toArray
def invB (ops : Array Oper) (n : Nat) : Bool :=
  decide (n < ops.size) && Region.sinkB .any ops n && Region.chainB .any ops n && backB ops && distinctDst (ops.toList.take n) && seqAfter ops n

theorem backB_spec (h : backB ops = true) {i : Nat} {o : Oper} (ho : ops[i]? = some o) : ∀ e ∈ o.after, Region.binds .any e = true → e.on < i := by
  intro e he hb
  have hlt : i < ops.size := (Array.getElem?_eq_some_iff.1 ho).1
  have h1 := List.all_eq_true.1 h i (List.mem_range.2 hlt)
  rw [ho] at h1
  simp only [Option.map_some, Option.getD_some, Array.all_eq_true_iff_forall_mem, Bool.or_eq_true, Bool.not_eq_true', decide_eq_true_eq] at h1
  rcases h1 e he with h2 | h2
  · rw [hb] at h2; cases h2
  · exact h2

theorem mem_predsOf {o : Oper} {e : Edge} (he : e ∈ o.after) (hb : Region.binds .any e = true) : e.on ∈ predsOf o := by
  unfold predsOf
  rw [List.mem_filterMap]
  exact ⟨e, by simpa using he, by simp [hb]⟩
theorem of_mem_predsOf {o : Oper} {p : Nat} (h : p ∈ predsOf o) : ∃ e ∈ o.after, Region.binds .any e = true ∧ e.on = p := by
  unfold predsOf at h
  rw [List.mem_filterMap] at h
  obtain ⟨e, he, h2⟩ := h
  split at h2
  · rename_i hb
    exact ⟨e, by simpa using he, hb, by simpa using h2⟩
  · cases h2

/-- What is known of a head: each operation's relation, that it looks at no other's value, that it stays, and its step. -/
structure HeadOK (P : Program) (ops : Array Oper) (F : List Nat) (C : World → Prop) (T : World → World → Prop) (hd : List Oper) (a0 : Act) (Rs : List RelU) : Prop where
  len : Rs.length = hd.length
  loc : ∀ j o, hd[j]? = some o → ∀ U w, (Rs.getD j fun _ _ => True) U w = (Rs.getD j fun _ _ => True) (maskU (j :: predsOf o) U) w
  stay : ∀ j U w w', C w → T w w' → (Rs.getD j fun _ _ => True) U w → (Rs.getD j fun _ _ => True) U w'
  step : ∀ j o, hd[j]? = some o → ∀ U w, C w → HypsU Rs U w (predsOf o) → wpList P ops (InvPost T a0.defers w o.dst fun v w' => (Rs.getD j fun _ _ => True) (updU U j v) w' ∧ (F.contains j = true → FreshV v w w')) [o] (fillPuts hd U 0 a0) w

theorem hypsU_append {Rs : List RelU} {more : List RelU} {U : Nat → Value} {w : World} : ∀ (ps : List Nat), (∀ p ∈ ps, p < Rs.length) → HypsU (Rs ++ more) U w ps → HypsU Rs U w ps
  | [], _, _ => trivial
  | p :: ps, hl, h => by
    refine ⟨?_, hypsU_append ps (fun q hq => hl q (by simp [hq])) h.2⟩
    have := h.1
    rwa [List.getD_eq_getElem?_getD, List.getElem?_append_left (hl p (by simp)), ← List.getD_eq_getElem?_getD] at this

theorem wpInv_ok {F : List Nat} {C : World → Prop} {T : World → World → Prop} {hd : List Oper} {a0 : Act} {fin : (Nat → Value) → World → Prop}
    (hback : ∀ j o, hd[j]? = some o → ∀ p ∈ predsOf o, p < j) :
    ∀ (rest : List Oper) (i : Nat) (Rs : List RelU), Rs.length = i → hd.drop i = rest → i ≤ hd.length →
      (∀ j o, j < i → hd[j]? = some o → ∀ U w, (Rs.getD j fun _ _ => True) U w = (Rs.getD j fun _ _ => True) (maskU (j :: predsOf o) U) w) →
      (∀ j U w w', j < i → C w → T w w' → (Rs.getD j fun _ _ => True) U w → (Rs.getD j fun _ _ => True) U w') →
      (∀ j o, j < i → hd[j]? = some o → ∀ U w, C w → HypsU Rs U w (predsOf o) → wpList P ops (InvPost T a0.defers w o.dst fun v w' => (Rs.getD j fun _ _ => True) (updU U j v) w' ∧ (F.contains j = true → FreshV v w w')) [o] (fillPuts hd U 0 a0) w) →
      wpInv P ops F C T hd a0 fin i Rs rest → ∃ Rs', HeadOK P ops F C T hd a0 Rs' ∧ ∀ U w, C w → AllU U w Rs' → ApartF F U → fin U w
  | [], i, Rs, hl, hdrop, hle, h1, h2, h3, h => by
    have hi : hd.length = i := by
      have := congrArg List.length hdrop
      simp at this
      omega
    refine ⟨Rs, ⟨by omega, fun j o hj => h1 j o (by rw [← hi]; exact (List.getElem?_eq_some_iff.1 hj).1) hj, fun j U w w' => ?_, fun j o hj => h3 j o (by rw [← hi]; exact (List.getElem?_eq_some_iff.1 hj).1) hj⟩, h⟩
    by_cases hj : j < i
    · exact h2 j U w w' hj
    · intro _ _ _
      rw [List.getD_eq_getElem?_getD, List.getElem?_eq_none (by omega)]
      trivial
  | o :: rest, i, Rs, hl, hdrop, hle, h1, h2, h3, h => by
    obtain ⟨r, ha, hb, hc, hn⟩ := h
    have hoi : hd[i]? = some o := by
      have := congrArg (fun l => l[0]?) hdrop
      simpa using this
    have hlt : i < hd.length := (List.getElem?_eq_some_iff.1 hoi).1
    have gl : ∀ j, j < i → (Rs ++ [r]).getD j (fun _ _ => True) = Rs.getD j (fun _ _ => True) := fun j hj => by
      rw [List.getD_eq_getElem?_getD, List.getElem?_append_left (by omega), ← List.getD_eq_getElem?_getD]
    have gi : (Rs ++ [r]).getD i (fun _ _ => True) = r := by
      rw [List.getD_eq_getElem?_getD, List.getElem?_append_right (by omega)]
      simp [hl]
    refine wpInv_ok hback rest (i + 1) (Rs ++ [r]) (by simp [hl]) ?_ (by omega) ?_ ?_ ?_ hn
    · rw [← List.drop_drop, hdrop]; rfl
    · intro j p hj hp U w
      by_cases e : j = i
      · subst e
        rw [gi]
        obtain rfl : p = o := Option.some.inj (hp.symm.trans hoi)
        exact ha U w
      · rw [gl j (by omega)]; exact h1 j p (by omega) hp U w
    · intro j U w w' hj
      by_cases e : j = i
      · subst e; rw [gi]; exact hb U w w'
      · rw [gl j (by omega)]; exact h2 j U w w' (by omega)
    · intro j p hj hp U w hC hH
      have hp' : ∀ q ∈ predsOf p, q < Rs.length := fun q hq => by have := hback j p hp q hq; omega
      have hH' := hypsU_append (predsOf p) hp' hH
      by_cases e : j = i
      · subst e
        rw [gi]
        obtain rfl : p = o := Option.some.inj (hp.symm.trans hoi)
        exact hc U w hC hH'
      · rw [gl j (by omega)]
        exact h3 j p (by omega) hp U w hC hH'

theorem hypsU_of {Rs : List RelU} {U : Nat → Value} {w : World} : ∀ (ps : List Nat), (∀ p ∈ ps, (Rs.getD p fun _ _ => True) U w) → HypsU Rs U w ps
  | [], _ => trivial
  | p :: ps, h => ⟨h p (by simp), hypsU_of ps fun q hq => h q (by simp [hq])⟩
theorem allU_of {U : Nat → Value} {w : World} : ∀ (Rs : List RelU), (∀ j, j < Rs.length → (Rs.getD j fun _ _ => True) U w) → AllU U w Rs
  | [], _ => trivial
  | r :: rs, h => ⟨by simpa using h 0 (by simp), allU_of rs fun j hj => by simpa using h (j + 1) (by simpa using hj)⟩

theorem wpAny_of_inv {F : List Nat} {C : World → Prop} {T : World → World → Prop} {n : Nat} {a0 : Act} {Rs : List RelU} {Q : Exit → Act → World → Prop} {l : List Oper} (hops : ops = l.toArray) (hB : invB ops n = true)
    (hCT : ∀ w w', C w → T w w' → C w') (hTs : ∀ w w', T w w' → w.heap.size ≤ w'.heap.size) (hFn : F.all (fun i => decide (i < n)) = true) (hOK : HeadOK P ops F C T (l.take n) a0 Rs)
    (hfin : ∀ U w, C w → AllU U w Rs → ApartF F U → wpList P ops Q (l.drop n) (fillPuts (l.take n) U 0 a0) w) :
    ∀ (f : Nat) (L : List Nat) (listed : Array Bool) (U : Nat → Value) (w : World), L.Nodup → L.length = f → (∀ j, j ∈ L ↔ j < n ∧ listed.getD j true = false) → HeadInv .any ops n listed → C w →
      (∀ j, j < n → listed.getD j false = true → (Rs.getD j fun _ _ => True) U w) → (∀ j, F.contains j = true → listed.getD j false = true → ∃ p, blkOf (U j) = some p ∧ p < w.heap.size) →
      (∀ i j, F.contains i = true → F.contains j = true → i ≠ j → listed.getD i false = true → listed.getD j false = true → blkOf (U i) ≠ blkOf (U j)) → wpAny P .any ops Q (f + (ops.size - n)) listed (fillPuts (l.take n) U 0 a0) w := by
  simp only [invB, Bool.and_eq_true, decide_eq_true_eq] at hB
  obtain ⟨⟨⟨⟨⟨hn, hs⟩, hc⟩, hback⟩, hdist⟩, hseq⟩ := hB
  have hlen : (l.take n).length = n := by subst hops; simp at hn ⊢; omega
  have hdl : (l.drop n).length = ops.size - n := by subst hops; simp
  intro f
  induction f with
  | zero =>
    intro L listed U w hnd hL hmem inv hC hR hFb hFd
    have hL0 : L = [] := List.length_eq_zero_iff.1 hL
    subst hL0
    have hall : ∀ j, j < n → listed.getD j true = true := fun j hj => by
      cases h : listed.getD j true with
      | true => rfl
      | false => exact absurd ((hmem j).2 ⟨hj, h⟩) (by simp)
    have hlisted : listed = ((List.range ops.size).map fun i => decide (i < n)).toArray := by
      apply Array.ext
      · simp [inv.size]
      · intro i h1 h2
        simp only [List.getElem_toArray, List.getElem_map, List.getElem_range]
        by_cases hi : i < n
        · have := hall i hi
          simp [h1] at this
          simp [this, hi]
        · have := inv.tail i (by omega) (by rw [← inv.size]; exact h1)
          simp [h1] at this
          simp [this, hi]
    rw [Nat.zero_add, ← hdl]
    refine wpAny_of_seq (l.drop n) n listed _ w (fun j => by subst hops; simp [List.getElem?_drop]) (by rw [hdl, hlisted]; exact hseq) ?_
    have hallf : ∀ j, j < n → listed.getD j false = true := fun j hjn => by
      have := hall j hjn
      have hjs : j < listed.size := by rw [inv.size]; omega
      simp [hjs] at this ⊢
      exact this
    have hFn' : ∀ j, F.contains j = true → j < n := fun j hj => by
      have := List.all_eq_true.1 hFn j (List.contains_iff_mem.1 hj)
      simpa using this
    refine hfin U w hC (allU_of Rs fun j hj => hR j (by rw [hOK.len, hlen] at hj; exact hj) (hallf j (by rw [hOK.len, hlen] at hj; exact hj))) (fun i j hi hj hij => hFd i j hi hj hij (hallf i (hFn' i hi)) (hallf j (hFn' j hj)))
  | succ f ih =>
    intro L listed U w hnd hL hmem inv hC hR hFb hFd
    have hne : L ≠ [] := fun h => by subst h; simp at hL
    obtain ⟨i0, hi0⟩ := List.exists_mem_of_ne_nil L hne
    obtain ⟨hi0n, hi0u⟩ := (hmem i0).1 hi0
    -- the least one that is not listed may come up
    have hready : Region.ready .any ops listed ≠ [] := by
      have key : ∀ (d i : Nat), i ≤ d → i < n → listed.getD i true = false → Region.ready .any ops listed ≠ [] := by
        intro d
        induction d with
        | zero =>
          intro i hid hin hiu
          have hi : i = 0 := by omega
          subst hi
          have hlt : 0 < ops.size := by omega
          intro h
          have : 0 ∈ Region.ready .any ops listed := mem_ready.2 ⟨hiu, ops[0], by simp [hlt], fun e he hb => absurd (backB_spec hback (i := 0) (by simp [hlt]) e he hb) (by omega)⟩
          rw [h] at this; cases this
        | succ d ihd =>
          intro i hid hin hiu
          have hlt : i < ops.size := by omega
          by_cases hex : ∃ e ∈ ops[i].after, Region.binds .any e = true ∧ listed.getD e.on false = false
          · obtain ⟨e, he, hb, hu⟩ := hex
            have hlt2 := backB_spec hback (i := i) (by simp [hlt]) e he hb
            exact ihd e.on (by omega) (by omega) (getD_in (by rw [inv.size]; omega) hu)
          · intro h
            have : i ∈ Region.ready .any ops listed := mem_ready.2 ⟨hiu, ops[i], by simp [hlt], fun e he hb => by
              cases h' : listed.getD e.on false with
              | true => rfl
              | false => exact absurd ⟨e, he, hb, h'⟩ hex⟩
            rw [h] at this; cases this
      exact key i0 i0 (Nat.le_refl _) hi0n hi0u
    rw [show f + 1 + (ops.size - n) = (f + (ops.size - n)) + 1 by omega]
    refine ⟨fun h => absurd h hready, fun i hi => ?_⟩
    obtain ⟨hiu, o, ho, hall⟩ := mem_ready.1 hi
    have hin : i < n := by
      rcases Nat.lt_or_ge i n with h | h
      · exact h
      · exact absurd hi (tail_waits hs hc hn inv _ i0 rfl hi0n hi0u i h)
    have hio : (l.take n)[i]? = some o := by
      subst hops
      rw [List.getElem?_take_of_lt hin]
      simpa using ho
    have hp : ∀ p ∈ predsOf o, p < n ∧ listed.getD p false = true := fun p hp => by
      obtain ⟨e, he, hb, rfl⟩ := of_mem_predsOf hp
      have := backB_spec hback ho e he hb
      exact ⟨by omega, hall e he hb⟩
    have hstep := hOK.step i o hio U w hC (hypsU_of _ fun p hpp => hR p (hp p hpp).1 (hp p hpp).2)
    refine wpOp_of_list_inv ho (fillPuts_defers _ _ _ _) (fun v w' hT hG => ?_) hstep
    have hC' := hCT w w' hC hT
    rw [← put_slot, fillPuts_put (l.take n) U 0 i o _ a0 (by subst hops; simpa using hdist) hio, Nat.zero_add]
    refine ih (L.erase i) (listed.setIfInBounds i true) _ w' (hnd.erase i) (by rw [List.length_erase_of_mem ((hmem i).2 ⟨hin, hiu⟩), hL]; rfl) (fun j => ?_) (inv.set hi hin) hC' (fun j hj hjl => ?_) ?_ ?_
    · rw [hnd.mem_erase_iff, hmem j]
      by_cases e : i = j
      · subst e
        constructor
        · rintro ⟨h, _⟩; exact absurd rfl h
        · rintro ⟨_, h⟩
          have hsz : i < listed.size := by rw [inv.size]; omega
          simp [hsz] at h
      · rw [getD_set_ne true e]
        constructor
        · rintro ⟨_, h⟩; exact h
        · intro h; exact ⟨fun h' => e h'.symm, h⟩
    · by_cases e : i = j
      · subst e; exact hG.1
      · rw [getD_set_ne false e] at hjl
        have hj1 := hOK.stay j U w w' hC hT (hR j hj hjl)
        have hjs : j < ops.size := by omega
        obtain ⟨oj, hoj⟩ : ∃ oj, ops[j]? = some oj := ⟨ops[j], by simp [hjs]⟩
        have hjo : (l.take n)[j]? = some oj := by
          subst hops
          rw [List.getElem?_take_of_lt hj]
          simpa using hoj
        have hni : (j :: predsOf oj).contains i = false := by
          rw [Bool.eq_false_iff]
          intro h
          rcases List.mem_cons.1 (List.contains_iff_mem.1 h) with h | h
          · exact e h
          · obtain ⟨e', he', hb', rfl⟩ := of_mem_predsOf h
            have := inv.closed j oj hoj hjl e' he' hb'
            rw [getD_both hiu] at this
            cases this
        rw [hOK.loc j oj hjo, maskU_upd hni, ← hOK.loc j oj hjo]
        exact hj1
    · intro j hj hjl
      by_cases e : i = j
      · subst e
        obtain ⟨p, hp1, _, hp2⟩ := hG.2 hj
        exact ⟨p, by rw [updU_eq]; exact hp1, hp2⟩
      · rw [getD_set_ne false e] at hjl
        obtain ⟨p, hp1, hp2⟩ := hFb j hj hjl
        refine ⟨p, ?_, Nat.lt_of_lt_of_le hp2 (hTs _ _ hT)⟩
        have : updU U i (slotOf (fillPuts (l.take n) U 0 a0 |>.put o.dst v) o.dst) j = U j := by unfold updU; rw [if_neg (fun h => e h.symm)]
        rw [this]; exact hp1
    · intro j k hj hk hjk hjl hkl
      have old : ∀ q, i ≠ q → updU U i (slotOf (fillPuts (l.take n) U 0 a0 |>.put o.dst v) o.dst) q = U q := fun q e => by unfold updU; rw [if_neg (fun h => e h.symm)]
      by_cases e : i = j
      · subst e
        have e2 : i ≠ k := hjk
        rw [getD_set_ne false e2] at hkl
        obtain ⟨p, hp1, hp2, _⟩ := hG.2 hj
        obtain ⟨q, hq1, hq2⟩ := hFb k hk hkl
        rw [updU_eq, old k e2, hp1, hq1]
        intro h
        have := Option.some.inj h
        omega
      · rw [getD_set_ne false e] at hjl
        by_cases e2 : i = k
        · subst e2
          obtain ⟨p, hp1, hp2, _⟩ := hG.2 hk
          obtain ⟨q, hq1, hq2⟩ := hFb j hj hjl
          rw [updU_eq, old j e, hp1, hq1]
          intro h
          have := Option.some.inj h
          omega
        · rw [getD_set_ne false e2] at hkl
          rw [old j e, old k e2]
          exact hFd j k hj hk hjk hjl hkl

/-- An operation whose value hangs on the values ahead of it alone. -/
theorem wpInv_det {F : List Nat} {C : World → Prop} {T : World → World → Prop} {hd : List Oper} {a0 : Act} {fin : (Nat → Value) → World → Prop} {i : Nat} {Rs : List RelU} {o : Oper} {rest : List Oper} (hp : (predsOf o).contains i = false) (hF : F.contains i = false)
    (h : ∃ f : (Nat → Value) → Value, (∀ U w, C w → HypsU Rs U w (predsOf o) → wpList P ops (InvPost T a0.defers w o.dst fun v _ => v = f U) [o] (fillPuts hd U 0 a0) w) ∧
      (∀ U, f U = f (maskU (predsOf o) U)) ∧ wpInv P ops F C T hd a0 fin (i + 1) (Rs ++ [fun U _ => U i = f U]) rest) : wpInv P ops F C T hd a0 fin i Rs (o :: rest) := by
  obtain ⟨f, h1, h2, h3⟩ := h
  have e1 : ∀ U, maskU (predsOf o) (maskU (i :: predsOf o) U) = maskU (predsOf o) U := fun U => by
    funext j
    unfold maskU
    by_cases hj : (predsOf o).contains j = true
    · rw [if_pos hj, if_pos hj, if_pos (by simp at hj ⊢; exact .inr hj)]
    · rw [if_neg hj, if_neg hj]
  refine ⟨fun U _ => U i = f U, fun U w => ?_, fun _ _ _ _ _ h => h, fun U w hC hH => ?_, h3⟩
  · have e2 : maskU (i :: predsOf o) U i = U i := by unfold maskU; rw [if_pos (by simp)]
    have e3 : f (maskU (i :: predsOf o) U) = f U := by rw [h2, e1, ← h2]
    show (U i = f U) = (maskU (i :: predsOf o) U i = f (maskU (i :: predsOf o) U))
    rw [e2, e3]
  · refine wpList_post (fun a' w' hq => ?_) (h1 U w hC hH)
    refine ⟨hq.1, hq.2.1, hq.2.2.1, ?_, fun h => by rw [hF] at h; cases h⟩
    have hq4 := hq.2.2.2
    show updU U i (slotOf a' o.dst) i = f (updU U i (slotOf a' o.dst))
    rw [updU_eq, hq4, h2 (updU U i (f U)), maskU_upd hp, ← h2]
/-- What stands in the slots at the beginning. -/
theorem fillPuts_start : ∀ (l : List Oper) (i : Nat) (a : Act), ∃ U, fillPuts l U i a = a
  | [], _, a => ⟨fun _ => undef, rfl⟩
  | o :: l, i, a => by
    obtain ⟨U, hU⟩ := fillPuts_start l (i + 1) a
    refine ⟨updU U i (slotOf a o.dst), ?_⟩
    simp only [fillPuts, updU_eq]
    rw [fillPuts_upd_lt l U i (i + 1) _ _ (by omega)]
    have : a.put o.dst (slotOf a o.dst) = a := by
      unfold Act.put slotOf
      cases o.dst with
      | none => rfl
      | some d =>
        simp only
        by_cases h : d < a.tmps.size
        · obtain ⟨tm, df⟩ := a
          congr 1
          apply Array.ext
          · simp
          · intro k h1 h2
            rw [Array.getElem_setIfInBounds]
            split
            · rename_i e; subst e; simp
            · rfl
        · rw [Array.setIfInBounds_eq_of_size_le (Nat.le_of_not_lt h)]
    rw [this]
    exact hU

theorem wp_region_inv {id : Nat} {Q : Exit → Act → World → Prop} {a : Act} {w : World} {l : List Oper} (F : List Nat) (C : World → Prop) (T : World → World → Prop) (n : Nat) (hm : P.follows .mixedOrders = true) (hB : invB l.toArray n = true)
    (hFn : F.all (fun i => decide (i < n)) = true) (hC : C w.drew) (hCT : ∀ w w', C w → T w w' → C w') (hTs : ∀ w w', T w w' → w.heap.size ≤ w'.heap.size)
    (h : wpInv P l.toArray F C T (l.take n) a (fun U w => wpList P l.toArray Q (l.drop n) (fillPuts (l.take n) U 0 a) w) 0 [] (l.take n)) : (Code.region id l.toArray true).wp P Q a w := by
  refine wp_region_any hm ?_
  have hB' := hB
  simp only [invB, Bool.and_eq_true, decide_eq_true_eq] at hB'
  obtain ⟨⟨⟨⟨⟨hn, hs⟩, hc⟩, hback⟩, hdist⟩, hseq⟩ := hB'
  have hn' : n < l.length := by simpa using hn
  obtain ⟨Rs, hOK, hfin⟩ := wpInv_ok (P := P) (hd := l.take n) (fun j o hj p hp => by
    obtain ⟨e, he, hb, rfl⟩ := of_mem_predsOf hp
    have hjn : j < n := by have := (List.getElem?_eq_some_iff.1 hj).1; simp at this; omega
    rw [List.getElem?_take_of_lt hjn] at hj
    exact backB_spec hback (i := j) (by simpa using hj) e he hb) (l.take n) 0 [] rfl rfl (by omega) (fun j o hj => absurd hj (by omega)) (fun j U w w' hj => absurd hj (by omega)) (fun j o hj => absurd hj (by omega)) h
  obtain ⟨U, hU⟩ := fillPuts_start (l.take n) 0 a
  have := wpAny_of_inv (P := P) (Q := Q) rfl hB hCT hTs hFn hOK hfin n (List.range n) (Array.replicate l.toArray.size false) U { w with drawn := w.drawn + 1 } List.nodup_range (by simp) (fun j => by
      rw [List.mem_range]
      constructor
      · intro hj
        exact ⟨hj, getD_in (by simp; omega) (getD_replicate_false _ _)⟩
      · exact fun h => h.1)
    ⟨by simp, fun j oj _ hl => (by rw [getD_replicate_false] at hl; cases hl), fun t _ ht => getD_in (by simpa using ht) (getD_replicate_false _ _)⟩ hC (fun j _ hl => by rw [getD_replicate_false] at hl; cases hl) (fun j _ hl => by rw [getD_replicate_false] at hl; cases hl) (fun i j _ _ _ hl => by rw [getD_replicate_false] at hl; cases hl)
  rw [hU] at this
  have e : n + (l.toArray.size - n) = l.toArray.size := by omega
  rwa [e] at this
end
end Go
