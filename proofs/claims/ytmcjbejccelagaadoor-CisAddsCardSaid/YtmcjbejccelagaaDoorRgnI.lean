/-
  A region that draws its order, by what holds of each operation's value, where each operation has its own way to turn the world.
-/
import Derived.Test.YtmcjbejccelagaaDoorRgn
namespace Go.RI
open Go Go.RowKit
section
variable {P : Program} {ops : Array Oper}

/-- The walk: for each operation of the head what holds of its value. -/
def wpInv (P : Program) (ops : Array Oper) (F : List Nat) (C : (Nat → Bool) → World → Prop) (T : Nat → World → World → Prop) (hd : List Oper) (a0 : Act) (fin : (Nat → Value) → World → Prop) : Nat → List RelU → List Oper → Prop
  | i, Rs, [] => ∀ D U w, (∀ k, k < i → D k = true) → C D w → AllU U w Rs → ApartF F U → fin U w
  | i, Rs, o :: rest => ∃ r : RelU, (∀ U w, r U w = r (maskU (i :: predsOf o) U) w) ∧ (∀ k D U w w', k ≠ i → D k = false → C D w → T k w w' → r U w → r U w') ∧
      (∀ D U w, D i = false → C D w → HypsU Rs U w (predsOf o) → wpList P ops (InvPost (T i) a0.defers w o.dst fun v w' => r (updU U i v) w' ∧ (F.contains i = true → FreshV v w w')) [o] (fillPuts hd U 0 a0) w) ∧
      wpInv P ops F C T hd a0 fin (i + 1) (Rs ++ [r]) rest

/-- What is known of a head: each operation's relation, that it looks at no other's value, that it stays, and its step. -/
structure HeadOK (P : Program) (ops : Array Oper) (F : List Nat) (C : (Nat → Bool) → World → Prop) (T : Nat → World → World → Prop) (hd : List Oper) (a0 : Act) (Rs : List RelU) : Prop where
  len : Rs.length = hd.length
  loc : ∀ j o, hd[j]? = some o → ∀ U w, (Rs.getD j fun _ _ => True) U w = (Rs.getD j fun _ _ => True) (maskU (j :: predsOf o) U) w
  stay : ∀ k j D U w w', k ≠ j → D k = false → C D w → T k w w' → (Rs.getD j fun _ _ => True) U w → (Rs.getD j fun _ _ => True) U w'
  step : ∀ j o, hd[j]? = some o → ∀ D U w, D j = false → C D w → HypsU Rs U w (predsOf o) → wpList P ops (InvPost (T j) a0.defers w o.dst fun v w' => (Rs.getD j fun _ _ => True) (updU U j v) w' ∧ (F.contains j = true → FreshV v w w')) [o] (fillPuts hd U 0 a0) w

theorem wpInv_ok {F : List Nat} {C : (Nat → Bool) → World → Prop} {T : Nat → World → World → Prop} {hd : List Oper} {a0 : Act} {fin : (Nat → Value) → World → Prop}
    (hback : ∀ j o, hd[j]? = some o → ∀ p ∈ predsOf o, p < j) :
    ∀ (rest : List Oper) (i : Nat) (Rs : List RelU), Rs.length = i → hd.drop i = rest → i ≤ hd.length →
      (∀ j o, j < i → hd[j]? = some o → ∀ U w, (Rs.getD j fun _ _ => True) U w = (Rs.getD j fun _ _ => True) (maskU (j :: predsOf o) U) w) →
      (∀ k j D U w w', j < i → k ≠ j → D k = false → C D w → T k w w' → (Rs.getD j fun _ _ => True) U w → (Rs.getD j fun _ _ => True) U w') →
      (∀ j o, j < i → hd[j]? = some o → ∀ D U w, D j = false → C D w → HypsU Rs U w (predsOf o) → wpList P ops (InvPost (T j) a0.defers w o.dst fun v w' => (Rs.getD j fun _ _ => True) (updU U j v) w' ∧ (F.contains j = true → FreshV v w w')) [o] (fillPuts hd U 0 a0) w) →
      wpInv P ops F C T hd a0 fin i Rs rest → ∃ Rs', HeadOK P ops F C T hd a0 Rs' ∧ ∀ D U w, (∀ k, k < hd.length → D k = true) → C D w → AllU U w Rs' → ApartF F U → fin U w
  | [], i, Rs, hl, hdrop, hle, h1, h2, h3, h => by
    have hi : hd.length = i := by
      have := congrArg List.length hdrop
      simp at this
      omega
    refine ⟨Rs, ⟨by omega, fun j o hj => h1 j o (by rw [← hi]; exact (List.getElem?_eq_some_iff.1 hj).1) hj, fun k j D U w w' => ?_, fun j o hj => h3 j o (by rw [← hi]; exact (List.getElem?_eq_some_iff.1 hj).1) hj⟩, fun D U w hD => h D U w (fun k hk => hD k (by omega))⟩
    by_cases hj : j < i
    · exact h2 k j D U w w' hj
    · intro _ _ _ _ _
      rw [List.getD_eq_getElem?_getD, List.getElem?_eq_none (by omega)]
      trivial
  | o :: rest, i, Rs, hl, hdrop, hle, h1, h2, h3, h => by
    obtain ⟨r, ha, hb, hc, hn⟩ := h
    have hoi : hd[i]? = some o := by
      have := congrArg (fun l => l[0]?) hdrop
      simpa using this
    have hlt : i < hd.length := (List.getElem?_eq_some_iff.1 hoi).1
    have gl : ∀ j, j < i → (Rs ++ [r]).getD j (fun _ _ => True) = Rs.getD j (fun _ _ => True) := fun j hj => by
      rw [List.getD_eq_getElem?_getD, List.getElem?_append_left (by omega), ← List.getD_eq_getElem?_getD]
    have gi : (Rs ++ [r]).getD i (fun _ _ => True) = r := by
      rw [List.getD_eq_getElem?_getD, List.getElem?_append_right (by omega)]
      simp [hl]
    refine wpInv_ok hback rest (i + 1) (Rs ++ [r]) (by simp [hl]) ?_ (by omega) ?_ ?_ ?_ hn
    · rw [← List.drop_drop, hdrop]; rfl
    · intro j p hj hp U w
      by_cases e : j = i
      · subst e
        rw [gi]
        obtain rfl : p = o := Option.some.inj (hp.symm.trans hoi)
        exact ha U w
      · rw [gl j (by omega)]; exact h1 j p (by omega) hp U w
    · intro k j D U w w' hj
      by_cases e : j = i
      · subst e; rw [gi]; exact hb k D U w w'
      · rw [gl j (by omega)]; exact h2 k j D U w w' (by omega)
    · intro j p hj hp D U w hDj hC hH
      have hp' : ∀ q ∈ predsOf p, q < Rs.length := fun q hq => by have := hback j p hp q hq; omega
      have hH' := hypsU_append (predsOf p) hp' hH
      by_cases e : j = i
      · subst e
        rw [gi]
        obtain rfl : p = o := Option.some.inj (hp.symm.trans hoi)
        exact hc D U w hDj hC hH'
      · rw [gl j (by omega)]
        exact h3 j p (by omega) hp D U w hDj hC hH'

theorem wpAny_of_inv {F : List Nat} {C : (Nat → Bool) → World → Prop} {T : Nat → World → World → Prop} {n : Nat} {a0 : Act} {Rs : List RelU} {Q : Exit → Act → World → Prop} {l : List Oper} (hops : ops = l.toArray) (hB : invB ops n = true)
    (hCT : ∀ k D w w', D k = false → C D w → T k w w' → C (fun j => if j = k then true else D j) w') (hTs : ∀ k w w', T k w w' → w.heap.size ≤ w'.heap.size) (hFn : F.all (fun i => decide (i < n)) = true) (hOK : HeadOK P ops F C T (l.take n) a0 Rs)
    (hfin : ∀ D U w, (∀ k, k < n → D k = true) → C D w → AllU U w Rs → ApartF F U → wpList P ops Q (l.drop n) (fillPuts (l.take n) U 0 a0) w) :
    ∀ (f : Nat) (L : List Nat) (listed : Array Bool) (U : Nat → Value) (w : World), L.Nodup → L.length = f → (∀ j, j ∈ L ↔ j < n ∧ listed.getD j true = false) → HeadInv .any ops n listed → C (fun k => listed.getD k false) w →
      (∀ j, j < n → listed.getD j false = true → (Rs.getD j fun _ _ => True) U w) → (∀ j, F.contains j = true → listed.getD j false = true → ∃ p, blkOf (U j) = some p ∧ p < w.heap.size) →
      (∀ i j, F.contains i = true → F.contains j = true → i ≠ j → listed.getD i false = true → listed.getD j false = true → blkOf (U i) ≠ blkOf (U j)) → wpAny P .any ops Q (f + (ops.size - n)) listed (fillPuts (l.take n) U 0 a0) w := by
  simp only [invB, Bool.and_eq_true, decide_eq_true_eq] at hB
  obtain ⟨⟨⟨⟨⟨hn, hs⟩, hc⟩, hback⟩, hdist⟩, hseq⟩ := hB
  have hlen : (l.take n).length = n := by subst hops; simp at hn ⊢; omega
  have hdl : (l.drop n).length = ops.size - n := by subst hops; simp
  intro f
  induction f with
  | zero =>
    intro L listed U w hnd hL hmem inv hC hR hFb hFd
    have hL0 : L = [] := List.length_eq_zero_iff.1 hL
    subst hL0
    have hall : ∀ j, j < n → listed.getD j true = true := fun j hj => by
      cases h : listed.getD j true with
      | true => rfl
      | false => exact absurd ((hmem j).2 ⟨hj, h⟩) (by simp)
    have hlisted : listed = ((List.range ops.size).map fun i => decide (i < n)).toArray := by
      apply Array.ext
      · simp [inv.size]
      · intro i h1 h2
        simp only [List.getElem_toArray, List.getElem_map, List.getElem_range]
        by_cases hi : i < n
        · have := hall i hi
          simp [h1] at this
          simp [this, hi]
        · have := inv.tail i (by omega) (by rw [← inv.size]; exact h1)
          simp [h1] at this
          simp [this, hi]
    rw [Nat.zero_add, ← hdl]
    refine wpAny_of_seq (l.drop n) n listed _ w (fun j => by subst hops; simp [List.getElem?_drop]) (by rw [hdl, hlisted]; exact hseq) ?_
    have hallf : ∀ j, j < n → listed.getD j false = true := fun j hjn => by
      have := hall j hjn
      have hjs : j < listed.size := by rw [inv.size]; omega
      simp [hjs] at this ⊢
      exact this
    have hFn' : ∀ j, F.contains j = true → j < n := fun j hj => by
      have := List.all_eq_true.1 hFn j (List.contains_iff_mem.1 hj)
      simpa using this
    refine hfin _ U w hallf hC (allU_of Rs fun j hj => hR j (by rw [hOK.len, hlen] at hj; exact hj) (hallf j (by rw [hOK.len, hlen] at hj; exact hj))) (fun i j hi hj hij => hFd i j hi hj hij (hallf i (hFn' i hi)) (hallf j (hFn' j hj)))
  | succ f ih =>
    intro L listed U w hnd hL hmem inv hC hR hFb hFd
    have hne : L ≠ [] := fun h => by subst h; simp at hL
    obtain ⟨i0, hi0⟩ := List.exists_mem_of_ne_nil L hne
    obtain ⟨hi0n, hi0u⟩ := (hmem i0).1 hi0
    -- the least one that is not listed may come up
    have hready : Region.ready .any ops listed ≠ [] := by
      have key : ∀ (d i : Nat), i ≤ d → i < n → listed.getD i true = false → Region.ready .any ops listed ≠ [] := by
        intro d
        induction d with
        | zero =>
          intro i hid hin hiu
          have hi : i = 0 := by omega
          subst hi
          have hlt : 0 < ops.size := by omega
          intro h
          have : 0 ∈ Region.ready .any ops listed := mem_ready.2 ⟨hiu, ops[0], by simp [hlt], fun e he hb => absurd (backB_spec hback (i := 0) (by simp [hlt]) e he hb) (by omega)⟩
          rw [h] at this; cases this
        | succ d ihd =>
          intro i hid hin hiu
          have hlt : i < ops.size := by omega
          by_cases hex : ∃ e ∈ ops[i].after, Region.binds .any e = true ∧ listed.getD e.on false = false
          · obtain ⟨e, he, hb, hu⟩ := hex
            have hlt2 := backB_spec hback (i := i) (by simp [hlt]) e he hb
            exact ihd e.on (by omega) (by omega) (getD_in (by rw [inv.size]; omega) hu)
          · intro h
            have : i ∈ Region.ready .any ops listed := mem_ready.2 ⟨hiu, ops[i], by simp [hlt], fun e he hb => by
              cases h' : listed.getD e.on false with
              | true => rfl
              | false => exact absurd ⟨e, he, hb, h'⟩ hex⟩
            rw [h] at this; cases this
      exact key i0 i0 (Nat.le_refl _) hi0n hi0u
    rw [show f + 1 + (ops.size - n) = (f + (ops.size - n)) + 1 by omega]
    refine ⟨fun h => absurd h hready, fun i hi => ?_⟩
    obtain ⟨hiu, o, ho, hall⟩ := mem_ready.1 hi
    have hin : i < n := by
      rcases Nat.lt_or_ge i n with h | h
      · exact h
      · exact absurd hi (tail_waits hs hc hn inv _ i0 rfl hi0n hi0u i h)
    have hio : (l.take n)[i]? = some o := by
      subst hops
      rw [List.getElem?_take_of_lt hin]
      simpa using ho
    have hp : ∀ p ∈ predsOf o, p < n ∧ listed.getD p false = true := fun p hp => by
      obtain ⟨e, he, hb, rfl⟩ := of_mem_predsOf hp
      have := backB_spec hback ho e he hb
      exact ⟨by omega, hall e he hb⟩
    have hstep := hOK.step i o hio _ U w (getD_both hiu) hC (hypsU_of _ fun p hpp => hR p (hp p hpp).1 (hp p hpp).2)
    refine wpOp_of_list_inv ho (fillPuts_defers _ _ _ _) (fun v w' hT hG => ?_) hstep
    have hC' := hCT i _ w w' (getD_both hiu) hC hT
    have hDe : (fun j => if j = i then true else listed.getD j false) = fun k => (listed.setIfInBounds i true).getD k false := by
      funext j
      by_cases e : i = j
      · subst e
        have hsz : i < listed.size := by rw [inv.size]; omega
        simp [hsz]
      · rw [if_neg (fun h => e h.symm), getD_set_ne false e]
    rw [hDe] at hC'
    rw [← put_slot, fillPuts_put (l.take n) U 0 i o _ a0 (by subst hops; simpa using hdist) hio, Nat.zero_add]
    refine ih (L.erase i) (listed.setIfInBounds i true) _ w' (hnd.erase i) (by rw [List.length_erase_of_mem ((hmem i).2 ⟨hin, hiu⟩), hL]; rfl) (fun j => ?_) (inv.set hi hin) hC' (fun j hj hjl => ?_) ?_ ?_
    · rw [hnd.mem_erase_iff, hmem j]
      by_cases e : i = j
      · subst e
        constructor
        · rintro ⟨h, _⟩; exact absurd rfl h
        · rintro ⟨_, h⟩
          have hsz : i < listed.size := by rw [inv.size]; omega
          simp [hsz] at h
      · rw [getD_set_ne true e]
        constructor
        · rintro ⟨_, h⟩; exact h
        · intro h; exact ⟨fun h' => e h'.symm, h⟩
    · by_cases e : i = j
      · subst e; exact hG.1
      · rw [getD_set_ne false e] at hjl
        have hj1 := hOK.stay i j _ U w w' e (getD_both hiu) hC hT (hR j hj hjl)
        have hjs : j < ops.size := by omega
        obtain ⟨oj, hoj⟩ : ∃ oj, ops[j]? = some oj := ⟨ops[j], by simp [hjs]⟩
        have hjo : (l.take n)[j]? = some oj := by
          subst hops
          rw [List.getElem?_take_of_lt hj]
          simpa using hoj
        have hni : (j :: predsOf oj).contains i = false := by
          rw [Bool.eq_false_iff]
          intro h
          rcases List.mem_cons.1 (List.contains_iff_mem.1 h) with h | h
          · exact e h
          · obtain ⟨e', he', hb', rfl⟩ := of_mem_predsOf h
            have := inv.closed j oj hoj hjl e' he' hb'
            rw [getD_both hiu] at this
            cases this
        rw [hOK.loc j oj hjo, maskU_upd hni, ← hOK.loc j oj hjo]
        exact hj1
    · intro j hj hjl
      by_cases e : i = j
      · subst e
        obtain ⟨p, hp1, _, hp2⟩ := hG.2 hj
        exact ⟨p, by rw [updU_eq]; exact hp1, hp2⟩
      · rw [getD_set_ne false e] at hjl
        obtain ⟨p, hp1, hp2⟩ := hFb j hj hjl
        refine ⟨p, ?_, Nat.lt_of_lt_of_le hp2 (hTs _ _ _ hT)⟩
        have : updU U i (slotOf (fillPuts (l.take n) U 0 a0 |>.put o.dst v) o.dst) j = U j := by unfold updU; rw [if_neg (fun h => e h.symm)]
        rw [this]; exact hp1
    · intro j k hj hk hjk hjl hkl
      have old : ∀ q, i ≠ q → updU U i (slotOf (fillPuts (l.take n) U 0 a0 |>.put o.dst v) o.dst) q = U q := fun q e => by unfold updU; rw [if_neg (fun h => e h.symm)]
      by_cases e : i = j
      · subst e
        have e2 : i ≠ k := hjk
        rw [getD_set_ne false e2] at hkl
        obtain ⟨p, hp1, hp2, _⟩ := hG.2 hj
        obtain ⟨q, hq1, hq2⟩ := hFb k hk hkl
        rw [updU_eq, old k e2, hp1, hq1]
        intro h
        have := Option.some.inj h
        omega
      · rw [getD_set_ne false e] at hjl
        by_cases e2 : i = k
        · subst e2
          obtain ⟨p, hp1, hp2, _⟩ := hG.2 hk
          obtain ⟨q, hq1, hq2⟩ := hFb j hj hjl
          rw [updU_eq, old j e, hp1, hq1]
          intro h
          have := Option.some.inj h
          omega
        · rw [getD_set_ne false e2] at hkl
          rw [old j e, old k e2]
          exact hFd j k hj hk hjk hjl hkl

/-- An operation whose value hangs on the values ahead of it alone. -/
theorem wpInv_det {F : List Nat} {C : (Nat → Bool) → World → Prop} {T : Nat → World → World → Prop} {hd : List Oper} {a0 : Act} {fin : (Nat → Value) → World → Prop} {i : Nat} {Rs : List RelU} {o : Oper} {rest : List Oper} (hp : (predsOf o).contains i = false) (hF : F.contains i = false)
    (h : ∃ f : (Nat → Value) → Value, (∀ D U w, D i = false → C D w → HypsU Rs U w (predsOf o) → wpList P ops (InvPost (T i) a0.defers w o.dst fun v _ => v = f U) [o] (fillPuts hd U 0 a0) w) ∧
      (∀ U, f U = f (maskU (predsOf o) U)) ∧ wpInv P ops F C T hd a0 fin (i + 1) (Rs ++ [fun U _ => U i = f U]) rest) : wpInv P ops F C T hd a0 fin i Rs (o :: rest) := by
  obtain ⟨f, h1, h2, h3⟩ := h
  have e1 : ∀ U, maskU (predsOf o) (maskU (i :: predsOf o) U) = maskU (predsOf o) U := fun U => by
    funext j
    unfold maskU
    by_cases hj : (predsOf o).contains j = true
    · rw [if_pos hj, if_pos hj, if_pos (by simp at hj ⊢; exact .inr hj)]
    · rw [if_neg hj, if_neg hj]
  refine ⟨fun U _ => U i = f U, fun U w => ?_, fun _ _ _ _ _ _ _ _ _ h => h, fun D U w hDi hC hH => ?_, h3⟩
  · have e2 : maskU (i :: predsOf o) U i = U i := by unfold maskU; rw [if_pos (by simp)]
    have e3 : f (maskU (i :: predsOf o) U) = f U := by rw [h2, e1, ← h2]
    show (U i = f U) = (maskU (i :: predsOf o) U i = f (maskU (i :: predsOf o) U))
    rw [e2, e3]
  · refine wpList_post (T := T i) (fun a' w' hq => ?_) (h1 D U w hDi hC hH)
    refine ⟨hq.1, hq.2.1, hq.2.2.1, ?_, fun h => by rw [hF] at h; cases h⟩
    have hq4 := hq.2.2.2
    show updU U i (slotOf a' o.dst) i = f (updU U i (slotOf a' o.dst))
    rw [updU_eq, hq4, h2 (updU U i (f U)), maskU_upd hp, ← h2]
theorem wp_region_inv {id : Nat} {Q : Exit → Act → World → Prop} {a : Act} {w : World} {l : List Oper} (F : List Nat) (C : (Nat → Bool) → World → Prop) (T : Nat → World → World → Prop) (n : Nat) (hm : P.follows .mixedOrders = true) (hB : invB l.toArray n = true)
    (hFn : F.all (fun i => decide (i < n)) = true) (hC : C (fun _ => false) w.drew) (hCT : ∀ k D w w', D k = false → C D w → T k w w' → C (fun j => if j = k then true else D j) w') (hTs : ∀ k w w', T k w w' → w.heap.size ≤ w'.heap.size)
    (h : wpInv P l.toArray F C T (l.take n) a (fun U w => wpList P l.toArray Q (l.drop n) (fillPuts (l.take n) U 0 a) w) 0 [] (l.take n)) : (Code.region id l.toArray true).wp P Q a w := by
  refine wp_region_any hm ?_
  have hB' := hB
  simp only [invB, Bool.and_eq_true, decide_eq_true_eq] at hB'
  obtain ⟨⟨⟨⟨⟨hn, hs⟩, hc⟩, hback⟩, hdist⟩, hseq⟩ := hB'
  have hn' : n < l.length := by simpa using hn
  obtain ⟨Rs, hOK, hfin⟩ := wpInv_ok (P := P) (hd := l.take n) (fun j o hj p hp => by
    obtain ⟨e, he, hb, rfl⟩ := of_mem_predsOf hp
    have hjn : j < n := by have := (List.getElem?_eq_some_iff.1 hj).1; simp at this; omega
    rw [List.getElem?_take_of_lt hjn] at hj
    exact backB_spec hback (i := j) (by simpa using hj) e he hb) (l.take n) 0 [] rfl rfl (by omega) (fun j o hj => absurd hj (by omega)) (fun k j D U w w' hj => absurd hj (by omega)) (fun j o hj => absurd hj (by omega)) h
  obtain ⟨U, hU⟩ := fillPuts_start (l.take n) 0 a
  have := wpAny_of_inv (P := P) (Q := Q) rfl hB hCT hTs hFn hOK (fun D U w hD => hfin D U w (fun k hk => hD k (by simp at hk; omega))) n (List.range n) (Array.replicate l.toArray.size false) U { w with drawn := w.drawn + 1 } List.nodup_range (by simp) (fun j => by
      rw [List.mem_range]
      constructor
      · intro hj
        exact ⟨hj, getD_in (by simp; omega) (getD_replicate_false _ _)⟩
      · exact fun h => h.1)
    ⟨by simp, fun j oj _ hl => (by rw [getD_replicate_false] at hl; cases hl), fun t _ ht => getD_in (by simpa using ht) (getD_replicate_false _ _)⟩ (by
      have e : (fun k => (Array.replicate l.toArray.size false).getD k false) = fun _ => false := funext fun k => getD_replicate_false _ _
      rw [e]; exact hC) (fun j _ hl => by rw [getD_replicate_false] at hl; cases hl) (fun j _ hl => by rw [getD_replicate_false] at hl; cases hl) (fun i j _ _ _ hl => by rw [getD_replicate_false] at hl; cases hl)
  rw [hU] at this
  have e : n + (l.toArray.size - n) = l.toArray.size := by omega
  rwa [e] at this
end
end Go.RI
