/-
  CisAdds, walked.
-/
import Derived.Test.YtmcjbejccelagaaDoorCisA
import Derived.Test.YtmcjbejccelagaaDoorEq
import Derived.Test.YtmcjbejccelagaaDoorRgnI
namespace Go.Proofs.YtmcjbejccelagaaDoor
open Go.RowKit Go.BigFrame
set_option linter.unusedSimpArgs false

theorem wmul_add (p q w : Int × Int) : wmul (p.1 + q.1, p.2 + q.2) w = ((wmul p w).1 + (wmul q w).1, (wmul p w).2 + (wmul q w).2) := by
  unfold wmul
  simp only [Prod.mk.injEq]
  rw [Int.add_mul, Int.add_mul, Int.add_mul, Int.add_mul]
  constructor <;> omega
theorem sumTo_add (s : Nat) (x y z : List (Int × Int)) (k : Nat) (h : ∀ j, z.getD j (0, 0) = ((x.getD j (0, 0)).1 + (y.getD j (0, 0)).1, (x.getD j (0, 0)).2 + (y.getD j (0, 0)).2)) : ∀ n, sumTo s z k n = ((sumTo s x k n).1 + (sumTo s y k n).1, (sumTo s x k n).2 + (sumTo s y k n).2)
  | 0 => rfl
  | n + 1 => by
    simp only [sumTo, sumTo_add s x y z k h n, term, h n, wmul_add]
    simp only [Prod.mk.injEq]
    constructor <;> omega

def pc (p : Int × Int) : List Value := [.int .i64 p.1, .int .i64 p.2]
def xrow (X : Nat → Int × Int) (k : Nat) : List Value := ((List.range k).map X).flatMap pc
theorem xrow_succ (X : Nat → Int × Int) (k : Nat) : xrow X (k + 1) = xrow X k ++ [.int .i64 (X k).1, .int .i64 (X k).2] := by
  unfold xrow
  rw [List.range_succ, List.map_append, List.flatMap_append]
  rfl
theorem xrow_len (X : Nat → Int × Int) : ∀ n, (xrow X n).length = n * 2
  | 0 => rfl
  | n + 1 => by rw [xrow_succ, List.length_append, xrow_len X n]; simp; omega
theorem xrow_at (X : Nat → Int × Int) : ∀ n j, j < n → (xrow X n)[j * 2]? = some (.int .i64 (X j).1) ∧ (xrow X n)[j * 2 + 1]? = some (.int .i64 (X j).2)
  | 0, j, h => absurd h (by omega)
  | n + 1, j, h => by
    rw [xrow_succ]
    have hl := xrow_len X n
    by_cases e : j < n
    · obtain ⟨h1, h2⟩ := xrow_at X n j e
      rw [List.getElem?_append_left (by omega), List.getElem?_append_left (by omega)]
      exact ⟨h1, h2⟩
    · obtain rfl : j = n := by omega
      rw [List.getElem?_append_right (by omega), List.getElem?_append_right (by omega), hl]
      simp
theorem big_at (f : Nat → Int × Int) : ∀ n j i, j < n → i < 4 → (((List.range n).map f).flatMap bigCells)[j * 4 + i]? = (bigCells (f j))[i]?
  | 0, j, i, h, _ => absurd h (by omega)
  | n + 1, j, i, h, hi => by
    have hl : ∀ m, (((List.range m).map f).flatMap bigCells).length = m * 4 := fun m => by
      induction m with
      | zero => rfl
      | succ m ih => rw [List.range_succ, List.map_append, List.flatMap_append, List.length_append, ih]; simp [bigCells]; omega
    rw [List.range_succ, List.map_append, List.flatMap_append]
    by_cases e : j < n
    · rw [List.getElem?_append_left (by rw [hl]; omega)]
      exact big_at f n j i e hi
    · obtain rfl : j = n := by omega
      rw [List.getElem?_append_right (by rw [hl]; omega), hl]
      simp [show j * 4 + i - j * 4 = i by omega]
theorem lens : ∀ n : Fin 17, n.val = 0 ∨ (∃ s : Fin 5, n.val = 2 ^ s.val) ∨ (∃ s : Fin 5, Lib.bitLen n.val = s.val + 1 ∧ n.val ≠ 2 ^ s.val) := by decide
theorem own_form {w : World} {base : Nat} {e : TypeId} {size n : Nat} {v : Value} {xs : List Value} (h : w.ownsRow base e size v n xs) (hn : 0 < n) : ∃ g c, v = .slice (some ⟨g, 0, none⟩) n c ∧ base ≤ g ∧ g < w.heap.size := by
  rcases h.2 with ⟨_, h0⟩ | ⟨g, cap, cur, hv, hg, hh, _⟩
  · omega
  · exact ⟨g, cap, hv, hg, (Array.getElem?_eq_some_iff.1 hh).1⟩
theorem own_slice' {w : World} {base : Nat} {e : TypeId} {size n : Nat} {v : Value} {xs : List Value} (h : w.ownsRow base e size v n xs) : ∃ A c, v = .slice A n c := by
  rcases h.2 with ⟨hv, h0⟩ | ⟨g, cap, cur, hv, _⟩
  · subst h0; exact ⟨none, 0, hv⟩
  · exact ⟨_, _, hv⟩
/-- What a row of one's own gives a direct sum. -/
theorem row_pairs {w : World} {base : Nat} {v : Value} {n : Nat} {X : Nat → Int × Int} (h : w.ownsRow base 51 2 v n (xrow X n)) (hn : 0 < n) :
    ∃ b c, v = .slice (some ⟨b, 0, none⟩) n c ∧ b < w.heap.size ∧ ∀ j, j < n → w.cell? ⟨b, 0 + j * 2, none⟩ = some (.int .i64 (X j).1) ∧ w.cell? ⟨b, 0 + j * 2 + 1, none⟩ = some (.int .i64 (X j).2) := by
  obtain ⟨b, c, rfl, hb1, hb2⟩ := own_form h hn
  refine ⟨b, c, rfl, hb2, fun j hj => ?_⟩
  obtain ⟨h1, h2⟩ := xrow_at X n j hj
  have e : ∀ i, (⟨b, 0, none⟩ : Addr).add i = ⟨b, 0 + i, none⟩ := fun i => by unfold Addr.add; split <;> simp_all
  have a1 := h.cells (g := b) rfl _ _ h1
  have a2 := h.cells (g := b) rfl _ _ h2
  rw [e] at a1 a2
  exact ⟨a1, a2⟩
theorem getD_map (X : Nat → Int × Int) (n j : Nat) (hj : j < n) : ((List.range n).map X).getD j (0, 0) = X j := by
  rw [List.getD_eq_getElem?_getD, List.getElem?_map, List.getElem?_range hj]; rfl
theorem direct_row (s : Nat) (hs : s ≤ 4) {w : World} {base : Nat} {v : Value} {n : Nat} {X : Nat → Int × Int} (h : w.ownsRow base 51 2 v n (xrow X n)) (hn : n = 2 ^ s) (hX : ∀ j, j < n → In64 (X j).1 ∧ In64 (X j).2) (hT : CosW w) :
    Calls Tryd.prog 23 #[v] w fun e w' => ∃ g c, e = .returned (.slice (some ⟨g, 0, none⟩) n c) ∧ w.heap.size ≤ g ∧ g < w'.heap.size ∧ (∀ k, k < n → ∀ i u, (bigCells (sumTo s ((List.range n).map X) k n))[i]? = some u → w'.cell? ⟨g, k * 4 + i, none⟩ = some u) ∧ Below w.heap.size w w' := by
  have hp : 0 < n := by rw [hn]; exact Nat.two_pow_pos s
  obtain ⟨b, c, rfl, hb, hz⟩ := row_pairs h hp
  have hl : ((List.range n).map X).length = n := by simp
  have := direct_yes s hs ((List.range n).map X) (by rw [hl]; exact hn) (fun j hj => by rw [hl] at hj; rw [getD_map X n j hj]; exact hX j hj) b 0 c w hT hb (fun j hj => by rw [hl] at hj; rw [getD_map X n j hj]; exact hz j hj)
  rw [hl] at this
  refine this.mono ?_
  rintro e w' ⟨v', rfl, ho, hb'⟩
  obtain ⟨g, c', rfl, hg1, hg2⟩ := own_form ho hp
  refine ⟨g, c', rfl, hg1, hg2, fun k hk i u hu => ?_, hb'⟩
  have hi : i < 4 := (List.getElem?_eq_some_iff.1 hu).1
  have e : ∀ i, (⟨g, 0, none⟩ : Addr).add i = ⟨g, i, none⟩ := fun i => by unfold Addr.add; split <;> simp_all
  have a1 := ho.cells (g := g) rfl (k * 4 + i) u (by unfold directF; rw [hl, big_at _ n k i hk hi]; exact hu)
  rwa [e] at a1

def okP (p : Int × Int) : Prop := -1099511627776 ≤ p.1 ∧ p.1 ≤ 1099511627776 ∧ -1099511627776 ≤ p.2 ∧ p.2 ≤ 1099511627776
theorem pairInfo : (Tryd.prog.info? 51).map (fun i => (i.zero, i.size, i.bytes)) = some (some (.agg #[.int .i64 0, .int .i64 0]), 2, 16) := by kernel_rfl

theorem append_src {P : Program} {ops : Array Oper} {rest : List Oper} {o : Oper} {a : Act} {Q : Exit → Act → World → Prop} {w : World} (hgd : o.guard = none) (s x : Operand) (t : TypeId)
    (ho : o.op = .call { callee := .builtin .append, args := #[s, x], argTypes := #[t, t] })
    (base : Nat) (e e' : TypeId) (z : Value) (size bytes : Nat) (ht : P.underlying t = some (.slice e)) (hi : (P.info? e).map (fun i => (i.zero, i.size, i.bytes)) = some (some z, size, bytes))
    (hzs : z.cells.size = size) (hsz : 0 < size)
    (v : Value) (n : Nat) (xs : List Value) (hs : a.eval s = v) (hown : w.ownsRow base e size v n xs)
    (q : Nat) (news : List Value) (hx : a.eval x = .slice (some ⟨q, 0, none⟩) 1 1) (hq : w.heap[q]? = some (.cells news.toArray e' (0, 0))) (hl : news.length = size) (h1 : ∀ u ∈ news, u.oneCell' = true)
    (h63 : n + 1 ≤ maxLen) (hbytes : (n + 1) * bytes ≤ 140737488355328) (hbase : base ≤ w.heap.size)
    (h : ∀ v' w', w'.ownsRow base e size v' (n + 1) (xs ++ news) → w.grownBy w' v.ownBlock → (v'.ownBlock = v.ownBlock ∨ v'.ownBlock = some w.heap.size) → wpList P ops Q rest (a.put o.dst v') w') :
    wpList P ops Q (o :: rest) a w := by
  obtain ⟨i0, hi0, hz0, hz1, hz2⟩ := info_parts hi
  refine wpList_append_own_at (w := w) hgd s x t ho base e i0 z size bytes ht hi0 hz0 hz1 hz2 hzs hsz v n xs hs hown ⟨q, 0, none⟩ 1 1 news hx (by omega) ?_ h1 h63 hbytes hbase (fun v' w' h2 h3 _ h5 => h v' w' h2 h3 h5)
  intro j u hj
  have : (⟨q, 0, none⟩ : Addr).add j = ⟨q, j, none⟩ := by unfold Addr.add; split <;> simp_all
  rw [this]
  unfold World.cell?
  rw [hq]
  simpa using hj
/-- All that was there stays, but two blocks. -/
structure But2 (o1 o2 : Option Nat) (w w' : World) : Prop where
  os : w'.os = w.os
  tape : w'.tape = w.tape
  output : w'.output = w.output
  size : w.heap.size ≤ w'.heap.size
  block : ∀ k, k < w.heap.size → some k ≠ o1 → some k ≠ o2 → w'.heap[k]? = w.heap[k]?
/-- Two appends to rows of one's own, in one statement. -/
def TA (ox oy : Option Nat) (i : Nat) (W W' : World) : Prop := W.grownBy W' (if i = 4 then ox else if i = 9 then oy else none)
theorem TA.of_below {ox oy : Option Nat} {i : Nat} {W W' : World} (h : Below W.heap.size W W') : TA ox oy i W W' := ⟨h.os, h.tape, h.output, h.size, fun k hk _ => h.block k hk⟩

theorem cut_w {P : Program} {c : Code} {Q : Exit → Act → World → Prop} {a : Act} {w : World} (F : World → Prop) (hF : F w) (h : ∀ W, F W → c.wp P Q a W) : c.wp P Q a w := h w hF
theorem But2.step {ox oy : Option Nat} {i : Nat} {G W W' : World} (h : But2 ox oy G W) (hT : TA ox oy i W W') : But2 ox oy G W' := by
  unfold TA at hT
  refine ⟨hT.os.trans h.os, hT.tape.trans h.tape, hT.output.trans h.output, Nat.le_trans h.size hT.size, fun k hk h1 h2 => ?_⟩
  refine (hT.block k (Nat.lt_of_lt_of_le hk h.size) ?_).trans (h.block k hk h1 h2)
  split
  · exact h1
  · split
    · exact h2
    · simp
theorem But2.own {o1 o2 : Option Nat} {G W : World} {base : Nat} {e : TypeId} {size n : Nat} {v : Value} {xs : List Value} (h : But2 o1 o2 G W) (ho : G.ownsRow base e size v n xs) (h1 : v.ownBlock = none ∨ v.ownBlock ≠ o1) (h2 : v.ownBlock = none ∨ v.ownBlock ≠ o2) : W.ownsRow base e size v n xs := by
  refine ⟨ho.1, ?_⟩
  rcases ho.2 with hn | ⟨g, cap, cur, rfl, hb, hgg, rest⟩
  · exact .inl hn
  · have e : (Value.slice (some ⟨g, 0, none⟩) n cap).ownBlock = some g := rfl
    rw [e] at h1 h2
    refine .inr ⟨g, cap, cur, rfl, hb, (h.block g (Array.getElem?_eq_some_iff.1 hgg).1 ?_ ?_).trans hgg, rest⟩
    · exact h1.resolve_left (by simp)
    · exact h2.resolve_left (by simp)
theorem But2.below {o1 o2 : Option Nat} {G W : World} {B : Nat} (h : But2 o1 o2 G W) (h1 : ∀ k, o1 = some k → B ≤ k) (h2 : ∀ k, o2 = some k → B ≤ k) (hs : B ≤ G.heap.size) : Below B G W :=
  ⟨h.os, h.tape, h.output, h.size, fun k hk => h.block k (by omega) (fun e => by have := h1 k e.symm; omega) (fun e => by have := h2 k e.symm; omega)⟩
theorem own_sym {a b : Option Nat} (h : a = none ∨ a ≠ b) : b = none ∨ b ≠ a := by
  rcases h with rfl | h
  · cases b with
    | none => exact .inl rfl
    | some x => exact .inr (by simp)
  · exact .inr fun hh => h hh.symm
theorem own_none (a : Option Nat) : a = none ∨ a ≠ none := by
  cases a with
  | none => exact .inl rfl
  | some x => exact .inr (by simp)
theorem own_lt' {w : World} {base : Nat} {e : TypeId} {size n : Nat} {v : Value} {xs : List Value} (h : w.ownsRow base e size v n xs) (k : Nat) (hk : v.ownBlock = some k) : base ≤ k ∧ k < w.heap.size := h.lt k hk

set_option maxHeartbeats 4000000 in
set_option maxRecDepth 100000 in
theorem cisAdds_any (n : Nat) (A : Option Addr) (cap : Nat) (X Y : Nat → Int × Int) (w : World) (hT : CosW w) (hn : n ≤ 9223372036854775807)
    (hc : 0 < n → ∃ b off, A = some ⟨b, off, none⟩ ∧ b < w.heap.size ∧ ∀ i, i < n → w.cell? ⟨b, off + i * 4, none⟩ = some (.int .i64 (X i).1) ∧ w.cell? ⟨b, off + i * 4 + 1, none⟩ = some (.int .i64 (X i).2) ∧ w.cell? ⟨b, off + i * 4 + 2, none⟩ = some (.int .i64 (Y i).1) ∧ w.cell? ⟨b, off + i * 4 + 3, none⟩ = some (.int .i64 (Y i).2)) :
    Calls Tryd.prog 6 #[.slice A n cap] w fun e w' => e = .returned (.bool true) ∧ Below w.heap.size w w' := by
  have ha := Lib.hid (awake20 w hT)
  have HT := Lib.hid hT
  have HC := Lib.hid hc
  clear hT hc
  by_cases h16 : 16 < n
  · go_enter Tryd.func6, Tryd.ntmps6
    go_wp2_with fail
    refine ha.out.mono ?_
    rintro e w' ⟨rfl, hb1⟩; obtain ⟨x1, rfl⟩ := below_as_grew hb1; clear hb1
    go_wp2_with fail
    go_ret
    exact ⟨rfl, by (repeat' (first | (with_reducible exact Below.refl _ _) | (with_reducible assumption) | (with_reducible refine Below.alloc ?_ ?_ _) | (with_reducible refine below_grew ?_ ?_ _) | (with_reducible refine Below.setCell ?_ ?_ _) | (with_reducible refine Below.drew ?_) | (with_reducible refine below_drewN ?_ _) | omega | (simp; done) | (simp; omega)))⟩
  go_enter Tryd.func6, Tryd.ntmps6
  go_wp2_with fail
  refine ha.out.mono ?_
  rintro e w' ⟨rfl, hb1⟩; obtain ⟨x1, rfl⟩ := below_as_grew hb1; clear hb1
  go_wp2_with fail
  go_loopw [3, 4, 5, 21] (fun vx vy vz cnt wr => ∃ k : Nat, k ≤ n ∧ cnt = .int .i64 k ∧ (∀ j, j < k → okP (X j) ∧ okP (Y j)) ∧ wr.ownsRow w.heap.size 51 2 vx k (xrow X k) ∧ wr.ownsRow w.heap.size 51 2 vy k (xrow Y k) ∧ wr.ownsRow w.heap.size 51 2 vz k (xrow (fun j => ((X j).1 + (Y j).1, (X j).2 + (Y j).2)) k) ∧ (vx.ownBlock = none ∨ vx.ownBlock ≠ vy.ownBlock) ∧ (vx.ownBlock = none ∨ vx.ownBlock ≠ vz.ownBlock) ∧ (vy.ownBlock = none ∨ vy.ownBlock ≠ vz.ownBlock) ∧ Below w.heap.size w wr) (fun _ _ _ cnt _ => n - (intOf cnt).toNat)
  case atStart => exact ⟨0, by omega, rfl, fun j hj => absurd hj (by omega), World.ownsRow_nil _ _ _ _, World.ownsRow_nil _ _ _ _, World.ownsRow_nil _ _ _ _, .inl rfl, .inl rfl, .inl rfl, by (repeat' (first | (with_reducible exact Below.refl _ _) | (with_reducible assumption) | (with_reducible refine Below.alloc ?_ ?_ _) | (with_reducible refine below_grew ?_ ?_ _) | (with_reducible refine Below.setCell ?_ ?_ _) | (with_reducible refine Below.drew ?_) | (with_reducible refine below_drewN ?_ _) | omega | (simp; done) | (simp; omega)))⟩
  case round =>
    obtain ⟨k, hk, rfl, hok, hox, hoy, hoz, hxy, hxz, hyz, hbel⟩ := hrel
    obtain ⟨Wo, rfl⟩ : ∃ Wo : World, Wo = wr := ⟨_, rfl⟩
    have hws := hbel.size
    have HOK := Lib.hid hok
    have HOX := Lib.hid hox
    have HOY := Lib.hid hoy
    have HOZ := Lib.hid hoz
    have HXY := Lib.hid hxy
    have HXZ := Lib.hid hxz
    have HYZ := Lib.hid hyz
    have HBEL := Lib.hid hbel
    clear hok hox hoy hoz hxy hxz hyz hbel
    by_cases hlt : k < n
    · have hlt' : (k : Int) < n := by omega
      have hk0 : (0 : Int) ≤ k := by omega
      obtain ⟨b, off, rfl, hb, hcc⟩ := HC.out (by omega)
      obtain ⟨c0, c1, c2, c3⟩ := hcc k hlt
      have e0 := (HBEL.out.cell (p := ⟨b, off + k * 4, none⟩) hb).trans c0
      have e1 := (HBEL.out.cell (p := ⟨b, off + k * 4 + 1, none⟩) hb).trans c1
      have e2 := (HBEL.out.cell (p := ⟨b, off + k * 4 + 2, none⟩) hb).trans c2
      have e3 := (HBEL.out.cell (p := ⟨b, off + k * 4 + 3, none⟩) hb).trans c3
      clear c0 c1 c2 c3 hcc
      generalize hX0 : (X k).1 = x0 at *
      generalize hX1 : (X k).2 = x1 at *
      generalize hY0 : (Y k).1 = y0 at *
      generalize hY1 : (Y k).2 = y1 at *
      have HX0 := Lib.hid hX0
      have HX1' := Lib.hid hX1
      have HY0 := Lib.hid hY0
      have HY1' := Lib.hid hY1
      clear hX0 hX1 hY0 hY1
      go_wp2_with fail
      obtain ⟨V, hV⟩ : ∃ V, V = Wo.alloc (.cells #[.int .i64 x0, .int .i64 x1, .int .i64 y0, .int .i64 y1] 60) := ⟨_, rfl⟩
      rw [← hV]
      have HV := Lib.hid hV
      have hVs : V.heap.size = Wo.heap.size + 1 := by rw [hV]; simp
      have hVb : Below Wo.heap.size Wo V := by rw [hV]; (repeat' (first | (with_reducible exact Below.refl _ _) | (with_reducible assumption) | (with_reducible refine Below.alloc ?_ ?_ _) | (with_reducible refine below_grew ?_ ?_ _) | (with_reducible refine Below.setCell ?_ ?_ _) | (with_reducible refine Below.drew ?_) | (with_reducible refine below_drewN ?_ _) | omega | (simp; done) | (simp; omega)))
      have v0 : V.cell? ⟨Wo.heap.size, 0, none⟩ = some (.int .i64 x0) := by rw [hV]; simp [go_sem]
      have v1 : V.cell? ⟨Wo.heap.size, 1, none⟩ = some (.int .i64 x1) := by rw [hV]; simp [go_sem]
      have v2 : V.cell? ⟨Wo.heap.size, 2, none⟩ = some (.int .i64 y0) := by rw [hV]; simp [go_sem]
      have v3 : V.cell? ⟨Wo.heap.size, 3, none⟩ = some (.int .i64 y1) := by rw [hV]; simp [go_sem]
      have hV' : Wo.heap.size < V.heap.size := by omega
      have HBV := Lib.hid (show Below w.heap.size w V from HBEL.out.trans (hVb.mono hws))
      have hwV : w.heap.size ≤ V.heap.size := by omega
      have HOX' := Lib.hid (ownsRow_below HOX.out hVb)
      have HOY' := Lib.hid (ownsRow_below HOY.out hVb)
      have HOZ' := Lib.hid (ownsRow_below HOZ.out hVb)
      clear hV hVs hVb e0 e1 e2 e3 HBEL
      have HBEL := HBV
      have i0 : ∀ w, (Instr.index 60 (.agg #[.int .i64 x0, .int .i64 x1, .int .i64 y0, .int .i64 y1]) (.int .i64 0)).run Tryd.prog w = .ok (.agg #[.int .i64 x0, .int .i64 x1]) w := fun _ => by kernel_rfl
      have i1 : ∀ w, (Instr.index 60 (.agg #[.int .i64 x0, .int .i64 x1, .int .i64 y0, .int .i64 y1]) (.int .i64 1)).run Tryd.prog w = .ok (.agg #[.int .i64 y0, .int .i64 y1]) w := fun _ => by kernel_rfl
      go_loopw [26] (fun cnt wr => (cnt = .int .i64 0 ∨ (cnt = .int .i64 1 ∧ okP (x0, x1)) ∨ (cnt = .int .i64 2 ∧ okP (x0, x1) ∧ okP (y0, y1))) ∧ ∃ x, wr = V.grew x) (fun cnt _ => 2 - (intOf cnt).toNat)
      case atStart => exact ⟨.inl rfl, World.as_grew _⟩
      case round =>
        obtain ⟨hcase, x, rfl⟩ := hrel
        rcases hcase with rfl | ⟨rfl, hk0'⟩ | ⟨rfl, hk0', hk1'⟩
        · by_cases h1 : 1099511627776 < max x0 x1
          · go_wp2
            go_ret
            have hbase := HBEL.out
            exact ⟨rfl, by (repeat' (first | (with_reducible exact Below.refl _ _) | (with_reducible assumption) | (with_reducible refine Below.alloc ?_ ?_ _) | (with_reducible refine below_grew ?_ ?_ _) | (with_reducible refine Below.setCell ?_ ?_ _) | (with_reducible refine Below.drew ?_) | (with_reducible refine below_drewN ?_ _) | omega | (simp; done) | (simp; omega)))⟩
          · by_cases h2 : min x0 x1 < -1099511627776
            · go_wp2
              go_ret
              have hbase := HBEL.out
              exact ⟨rfl, by (repeat' (first | (with_reducible exact Below.refl _ _) | (with_reducible assumption) | (with_reducible refine Below.alloc ?_ ?_ _) | (with_reducible refine below_grew ?_ ?_ _) | (with_reducible refine Below.setCell ?_ ?_ _) | (with_reducible refine Below.drew ?_) | (with_reducible refine below_drewN ?_ _) | omega | (simp; done) | (simp; omega)))⟩
            · have hin : okP (x0, x1) := ⟨by simp only; omega, by simp only; omega, by simp only; omega, by simp only; omega⟩
              have HIN := Lib.hid hin
              clear hin
              go_wp2
              go_roundw
              case rel => exact ⟨.inr (.inl ⟨rfl, HIN.out⟩), by simp only [World.alloc_grew, World.grew_grew]; exact ⟨_, rfl⟩⟩
              case measure => simp [intOf]
        · by_cases h1 : 1099511627776 < max y0 y1
          · go_wp2
            go_ret
            have hbase := HBEL.out
            exact ⟨rfl, by (repeat' (first | (with_reducible exact Below.refl _ _) | (with_reducible assumption) | (with_reducible refine Below.alloc ?_ ?_ _) | (with_reducible refine below_grew ?_ ?_ _) | (with_reducible refine Below.setCell ?_ ?_ _) | (with_reducible refine Below.drew ?_) | (with_reducible refine below_drewN ?_ _) | omega | (simp; done) | (simp; omega)))⟩
          · by_cases h2 : min y0 y1 < -1099511627776
            · go_wp2
              go_ret
              have hbase := HBEL.out
              exact ⟨rfl, by (repeat' (first | (with_reducible exact Below.refl _ _) | (with_reducible assumption) | (with_reducible refine Below.alloc ?_ ?_ _) | (with_reducible refine below_grew ?_ ?_ _) | (with_reducible refine Below.setCell ?_ ?_ _) | (with_reducible refine Below.drew ?_) | (with_reducible refine below_drewN ?_ _) | omega | (simp; done) | (simp; omega)))⟩
            · have hin : okP (y0, y1) := ⟨by simp only; omega, by simp only; omega, by simp only; omega, by simp only; omega⟩
              have HIN := Lib.hid hin
              clear hin
              go_wp2
              go_roundw
              case rel => exact ⟨.inr (.inr ⟨rfl, hk0', HIN.out⟩), by simp only [World.alloc_grew, World.grew_grew]; exact ⟨_, rfl⟩⟩
              case measure => simp [intOf]
        · have HK0 := Lib.hid hk0'
          have HK1 := Lib.hid hk1'
          obtain ⟨p0, p1, p2, p3⟩ := hk0'
          obtain ⟨q0, q1, q2, q3⟩ := hk1'
          simp only at p0 p1 p2 p3 q0 q1 q2 q3
          go_wp2_with fail
          refine cut_w (fun G => Below V.heap.size V G) (by (repeat' (first | (with_reducible exact Below.refl _ _) | (with_reducible assumption) | (with_reducible refine Below.alloc ?_ ?_ _) | (with_reducible refine below_grew ?_ ?_ _) | (with_reducible refine Below.setCell ?_ ?_ _) | (with_reducible refine Below.drew ?_) | (with_reducible refine below_drewN ?_ _) | omega | (simp; done) | (simp; omega)))) ?_
          rintro G hG
          have g0 := (hG.cell (p := ⟨Wo.heap.size, 0, none⟩) hV').trans v0
          have g1 := (hG.cell (p := ⟨Wo.heap.size, 1, none⟩) hV').trans v1
          have g2 := (hG.cell (p := ⟨Wo.heap.size, 2, none⟩) hV').trans v2
          have g3 := (hG.cell (p := ⟨Wo.heap.size, 3, none⟩) hV').trans v3
          have hGs := hG.size
          have hox := ownsRow_below HOX'.out hG
          have hoy := ownsRow_below HOY'.out hG
          have hoz := ownsRow_below HOZ'.out hG
          have hx1 := fun k hk => (own_lt' HOX.out k hk).2
          have hy1 := fun k hk => (own_lt' HOY.out k hk).2
          have HGB := Lib.hid (show Below w.heap.size w G from HBEL.out.trans (hG.mono hwV))
          have HOXG := Lib.hid hox
          have HOYG := Lib.hid hoy
          have HOZG := Lib.hid hoz
          clear v0 v1 v2 v3 hox hoy hoz hG HOX' HOY' HOZ' HBV HBEL i0 i1
          have hE : Wo.heap.size < G.heap.size := by omega
          have HX1 := Lib.hid (fun k hk => Nat.lt_of_lt_of_le (hx1 k hk) (show Wo.heap.size ≤ G.heap.size by omega))
          have HY1 := Lib.hid (fun k hk => Nat.lt_of_lt_of_le (hy1 k hk) (show Wo.heap.size ≤ G.heap.size by omega))
          have HEC := Lib.hid (fun W (hC : But2 u3.ownBlock u4.ownBlock G W) => (show W.cell? ⟨Wo.heap.size, 0, none⟩ = some (.int .i64 x0) ∧ W.cell? ⟨Wo.heap.size, 1, none⟩ = some (.int .i64 x1) ∧ W.cell? ⟨Wo.heap.size, 2, none⟩ = some (.int .i64 y0) ∧ W.cell? ⟨Wo.heap.size, 3, none⟩ = some (.int .i64 y1) from by
            have hb := hC.block Wo.heap.size hE (fun h => by have := hx1 _ h.symm; omega) (fun h => by have := hy1 _ h.symm; omega)
            have e : ∀ i, W.cell? ⟨Wo.heap.size, i, none⟩ = G.cell? ⟨Wo.heap.size, i, none⟩ := fun i => by unfold World.cell?; rw [hb]
            exact ⟨(e 0).trans g0, (e 1).trans g1, (e 2).trans g2, (e 3).trans g3⟩))
          clear hx1 hy1 g0 g1 g2 g3
          refine RI.wp_region_inv [] (fun D W => But2 u3.ownBlock u4.ownBlock G W ∧ (D 4 = false → W.ownsRow w.heap.size 51 2 u3 k (xrow X k)) ∧ (D 9 = false → W.ownsRow w.heap.size 51 2 u4 k (xrow Y k))) (TA u3.ownBlock u4.ownBlock) 10 (by kernel_rfl) (by kernel_rfl) (by kernel_rfl) ⟨⟨rfl, rfl, rfl, Nat.le_refl _, fun _ _ _ _ => rfl⟩, fun _ => HOXG.out, fun _ => HOYG.out⟩ ?_ (fun _ _ _ h => h.size) ?_
          · rintro i D W W' hDi ⟨hC, hcx, hcy⟩ hT
            refine ⟨hC.step hT, fun h4 => ?_, fun h9 => ?_⟩
            · replace h4 : (if 4 = i then true else D 4) = false := h4
              by_cases e : 4 = i
              · rw [if_pos e] at h4; cases h4
              · rw [if_neg e] at h4
                refine (hcx h4).kept hT ?_
                rw [if_neg (fun h => e h.symm)]
                split
                · exact HXY.out
                · cases u3.ownBlock with
                  | none => exact .inl rfl
                  | some x => exact .inr (by simp)
            · replace h9 : (if 9 = i then true else D 9) = false := h9
              by_cases e : 9 = i
              · rw [if_pos e] at h9; cases h9
              · rw [if_neg e] at h9
                refine (hcy h9).kept hT ?_
                by_cases e4 : i = 4
                · rw [if_pos e4]
                  exact own_sym HXY.out
                · rw [if_neg e4, if_neg (fun h => e h.symm)]
                  cases u4.ownBlock with
                  | none => exact .inl rfl
                  | some x => exact .inr (by simp)
          simp only [List.take_succ_cons, List.take_zero, List.drop_succ_cons, List.drop_zero]
          refine RI.wpInv_det (by kernel_rfl) (by kernel_rfl) ?_
          apply Exists.intro
          refine ⟨?_, ?_, ?_⟩
          · rintro D U W hDi ⟨hC, -, -⟩ hH
            obtain ⟨w0, w1, w2, w3⟩ := HEC.out W hC
            have hWs := hC.size
            simp only [HypsU, predsOf, Region.binds, List.filterMap_cons, List.filterMap_nil, if_true, List.nil_append, List.cons_append, List.getD_cons_zero, List.getD_cons_succ] at hH
            simp only [fillPuts, Act.put, List.setIfInBounds_toArray, List.set_cons_zero, List.set_cons_succ, Nat.reduceAdd]
            go_wp2_with fail
            refine ⟨rfl, rfl, TA.of_below (by (repeat' (first | (with_reducible exact Below.refl _ _) | (with_reducible assumption) | (with_reducible refine Below.alloc ?_ ?_ _) | omega | (simp; done) | (simp; omega)))), ?_⟩
            conv => lhs; whnf
            try rfl
          · exact fun _ => rfl
          simp only [List.nil_append, List.cons_append, Nat.reduceAdd]
          refine RI.wpInv_det (by kernel_rfl) (by kernel_rfl) ?_
          apply Exists.intro
          refine ⟨?_, ?_, ?_⟩
          · rintro D U W hDi ⟨hC, -, -⟩ hH
            obtain ⟨w0, w1, w2, w3⟩ := HEC.out W hC
            have hWs := hC.size
            simp only [HypsU, predsOf, Region.binds, List.filterMap_cons, List.filterMap_nil, if_true, List.nil_append, List.cons_append, List.getD_cons_zero, List.getD_cons_succ] at hH
            simp only [fillPuts, Act.put, List.setIfInBounds_toArray, List.set_cons_zero, List.set_cons_succ, Nat.reduceAdd]
            go_wp2_with fail
            refine ⟨rfl, rfl, TA.of_below (by (repeat' (first | (with_reducible exact Below.refl _ _) | (with_reducible assumption) | (with_reducible refine Below.alloc ?_ ?_ _) | omega | (simp; done) | (simp; omega)))), ?_⟩
            conv => lhs; whnf
            try rfl
          · exact fun _ => rfl
          simp only [List.nil_append, List.cons_append, Nat.reduceAdd]
          refine RI.wpInv_det (by kernel_rfl) (by kernel_rfl) ?_
          apply Exists.intro
          refine ⟨?_, ?_, ?_⟩
          · rintro D U W hDi ⟨hC, -, -⟩ hH
            obtain ⟨w0, w1, w2, w3⟩ := HEC.out W hC
            have hWs := hC.size
            simp only [HypsU, predsOf, Region.binds, List.filterMap_cons, List.filterMap_nil, if_true, List.nil_append, List.cons_append, List.getD_cons_zero, List.getD_cons_succ] at hH
            simp only [fillPuts, Act.put, List.setIfInBounds_toArray, List.set_cons_zero, List.set_cons_succ, Nat.reduceAdd]
            go_wp2_with fail
            refine ⟨rfl, rfl, TA.of_below (by (repeat' (first | (with_reducible exact Below.refl _ _) | (with_reducible assumption) | (with_reducible refine Below.alloc ?_ ?_ _) | omega | (simp; done) | (simp; omega)))), ?_⟩
            conv => lhs; whnf
            try rfl
          · exact fun _ => rfl
          simp only [List.nil_append, List.cons_append, Nat.reduceAdd]
          refine ⟨fun U W => ∃ q, U 3 = .slice (some ⟨q, 0, none⟩) 1 1 ∧ G.heap.size ≤ q ∧ W.heap[q]? = some (.cells #[.int .i64 x0, .int .i64 x1] 51 (0, 0)), fun _ _ => rfl, ?_, ?_, ?_⟩
          · rintro i D U W W' hi hDi ⟨hC, -, -⟩ hT ⟨q, hq1, hq2, hq3⟩
            refine ⟨q, hq1, hq2, (hT.block q (Array.getElem?_eq_some_iff.1 hq3).1 ?_).trans hq3⟩
            split
            · exact fun h => by have := HX1.out q h.symm; omega
            · split
              · exact fun h => by have := HY1.out q h.symm; omega
              · simp
          · rintro D U W hDi ⟨hC, -, -⟩ hH
            have hWs := hC.size
            simp only [HypsU, predsOf, Region.binds, List.filterMap_cons, List.filterMap_nil, if_true, List.nil_append, List.cons_append, List.getD_cons_zero, List.getD_cons_succ] at hH
            simp only [fillPuts, Act.put, List.setIfInBounds_toArray, List.set_cons_zero, List.set_cons_succ, Nat.reduceAdd]
            go_wp2_with fail
            refine ⟨rfl, rfl, TA.of_below (by (repeat' (first | (with_reducible exact Below.refl _ _) | (with_reducible assumption) | (with_reducible refine Below.alloc ?_ ?_ _) | omega | (simp; done) | (simp; omega)))), ⟨_, updU_eq _ _ _, hWs, alloc_at _ _⟩, fun h => by cases h⟩
          simp only [List.nil_append, List.cons_append, Nat.reduceAdd]
          refine ⟨fun U W => W.ownsRow w.heap.size 51 2 (U 4) (k + 1) (xrow X (k + 1)) ∧ ((U 4).ownBlock = u3.ownBlock ∨ ∃ g, (U 4).ownBlock = some g ∧ G.heap.size ≤ g), fun _ _ => rfl, ?_, ?_, ?_⟩
          · rintro i D U W W' hi hDi hC hT ⟨ho, hob⟩
            refine ⟨ho.kept hT ?_, hob⟩
            rw [if_neg hi]
            split
            · rcases hob with h | ⟨g, h, hg⟩
              · rw [h]; exact HXY.out
              · right; rw [h]
                exact fun hh => by have := HY1.out g hh.symm; omega
            · rcases hob with h | ⟨g, h, hg⟩
              · rw [h]
                cases u3.ownBlock with
                | none => exact .inl rfl
                | some x => exact .inr (by simp)
              · right; rw [h]; simp
          · rintro D U W hDi ⟨hC, hcx, hcy⟩ hH
            have hWs := hC.size
            have hoW := hcx hDi
            simp only [HypsU, predsOf, Region.binds, List.filterMap_cons, List.filterMap_nil, if_true, List.nil_append, List.cons_append, List.getD_cons_zero, List.getD_cons_succ] at hH
            obtain ⟨h0, ⟨q, hq1, hq2, hq3⟩, -⟩ := hH
            
            
            
            
            simp only [fillPuts, Act.put, List.setIfInBounds_toArray, List.set_cons_zero, List.set_cons_succ, Nat.reduceAdd]
            simp only [h0, hq1]
            clear h0 hq1
            go_wp2_with (at_builtin; refine append_src rfl _ _ 59 rfl w.heap.size 51 51 _ 2 16 Tryd.underlying59 pairInfo rfl (by decide) _ k _ rfl hoW q [_, _] rfl hq3 rfl ?h1 ?h63 ?hby ?hba ?_; (case h1 => simp [Value.oneCell']; done); (case h63 => exact maxLen_le (by omega)); (case hby => omega); (case hba => omega); intro v' w2 hown2 hgr2 hob2)
            refine ⟨rfl, rfl, hgr2, ?_⟩
            skip
            have e9 : ∀ v : Value, updU U 4 v 4 = v := fun v => updU_eq _ _ _
            skip
            show (w2.ownsRow _ _ _ v' _ _ ∧ (v'.ownBlock = _ ∨ ∃ g, v'.ownBlock = some g ∧ _))
            refine ⟨by rw [xrow_succ, HX0.out, HX1'.out]; exact hown2, ?_⟩
            rcases hob2 with h | h
            · exact .inl h
            · exact .inr ⟨_, h, hWs⟩
          simp only [List.nil_append, List.cons_append, Nat.reduceAdd]
          refine RI.wpInv_det (by kernel_rfl) (by kernel_rfl) ?_
          apply Exists.intro
          refine ⟨?_, ?_, ?_⟩
          · rintro D U W hDi ⟨hC, -, -⟩ hH
            obtain ⟨w0, w1, w2, w3⟩ := HEC.out W hC
            have hWs := hC.size
            simp only [HypsU, predsOf, Region.binds, List.filterMap_cons, List.filterMap_nil, if_true, List.nil_append, List.cons_append, List.getD_cons_zero, List.getD_cons_succ] at hH
            simp only [fillPuts, Act.put, List.setIfInBounds_toArray, List.set_cons_zero, List.set_cons_succ, Nat.reduceAdd]
            go_wp2_with fail
            refine ⟨rfl, rfl, TA.of_below (by (repeat' (first | (with_reducible exact Below.refl _ _) | (with_reducible assumption) | (with_reducible refine Below.alloc ?_ ?_ _) | omega | (simp; done) | (simp; omega)))), ?_⟩
            conv => lhs; whnf
            try rfl
          · exact fun _ => rfl
          simp only [List.nil_append, List.cons_append, Nat.reduceAdd]
          refine RI.wpInv_det (by kernel_rfl) (by kernel_rfl) ?_
          apply Exists.intro
          refine ⟨?_, ?_, ?_⟩
          · rintro D U W hDi ⟨hC, -, -⟩ hH
            obtain ⟨w0, w1, w2, w3⟩ := HEC.out W hC
            have hWs := hC.size
            simp only [HypsU, predsOf, Region.binds, List.filterMap_cons, List.filterMap_nil, if_true, List.nil_append, List.cons_append, List.getD_cons_zero, List.getD_cons_succ] at hH
            simp only [fillPuts, Act.put, List.setIfInBounds_toArray, List.set_cons_zero, List.set_cons_succ, Nat.reduceAdd]
            go_wp2_with fail
            refine ⟨rfl, rfl, TA.of_below (by (repeat' (first | (with_reducible exact Below.refl _ _) | (with_reducible assumption) | (with_reducible refine Below.alloc ?_ ?_ _) | omega | (simp; done) | (simp; omega)))), ?_⟩
            conv => lhs; whnf
            try rfl
          · exact fun _ => rfl
          simp only [List.nil_append, List.cons_append, Nat.reduceAdd]
          refine RI.wpInv_det (by kernel_rfl) (by kernel_rfl) ?_
          apply Exists.intro
          refine ⟨?_, ?_, ?_⟩
          · rintro D U W hDi ⟨hC, -, -⟩ hH
            obtain ⟨w0, w1, w2, w3⟩ := HEC.out W hC
            have hWs := hC.size
            simp only [HypsU, predsOf, Region.binds, List.filterMap_cons, List.filterMap_nil, if_true, List.nil_append, List.cons_append, List.getD_cons_zero, List.getD_cons_succ] at hH
            simp only [fillPuts, Act.put, List.setIfInBounds_toArray, List.set_cons_zero, List.set_cons_succ, Nat.reduceAdd]
            go_wp2_with fail
            refine ⟨rfl, rfl, TA.of_below (by (repeat' (first | (with_reducible exact Below.refl _ _) | (with_reducible assumption) | (with_reducible refine Below.alloc ?_ ?_ _) | omega | (simp; done) | (simp; omega)))), ?_⟩
            conv => lhs; whnf
            try rfl
          · exact fun _ => rfl
          simp only [List.nil_append, List.cons_append, Nat.reduceAdd]
          refine ⟨fun U W => ∃ q, U 8 = .slice (some ⟨q, 0, none⟩) 1 1 ∧ G.heap.size ≤ q ∧ W.heap[q]? = some (.cells #[.int .i64 y0, .int .i64 y1] 51 (0, 0)), fun _ _ => rfl, ?_, ?_, ?_⟩
          · rintro i D U W W' hi hDi ⟨hC, -, -⟩ hT ⟨q, hq1, hq2, hq3⟩
            refine ⟨q, hq1, hq2, (hT.block q (Array.getElem?_eq_some_iff.1 hq3).1 ?_).trans hq3⟩
            split
            · exact fun h => by have := HX1.out q h.symm; omega
            · split
              · exact fun h => by have := HY1.out q h.symm; omega
              · simp
          · rintro D U W hDi ⟨hC, -, -⟩ hH
            have hWs := hC.size
            simp only [HypsU, predsOf, Region.binds, List.filterMap_cons, List.filterMap_nil, if_true, List.nil_append, List.cons_append, List.getD_cons_zero, List.getD_cons_succ] at hH
            simp only [fillPuts, Act.put, List.setIfInBounds_toArray, List.set_cons_zero, List.set_cons_succ, Nat.reduceAdd]
            go_wp2_with fail
            refine ⟨rfl, rfl, TA.of_below (by (repeat' (first | (with_reducible exact Below.refl _ _) | (with_reducible assumption) | (with_reducible refine Below.alloc ?_ ?_ _) | omega | (simp; done) | (simp; omega)))), ⟨_, updU_eq _ _ _, hWs, alloc_at _ _⟩, fun h => by cases h⟩
          simp only [List.nil_append, List.cons_append, Nat.reduceAdd]
          refine ⟨fun U W => W.ownsRow w.heap.size 51 2 (U 9) (k + 1) (xrow Y (k + 1)) ∧ ((U 9).ownBlock = u4.ownBlock ∨ ∃ g, (U 9).ownBlock = some g ∧ G.heap.size ≤ g ∧ (U 4).ownBlock ≠ some g), fun _ _ => rfl, ?_, ?_, ?_⟩
          · rintro i D U W W' hi hDi hC hT ⟨ho, hob⟩
            refine ⟨ho.kept hT ?_, hob⟩
            skip
            split
            · rcases hob with h | ⟨g, h, hg, _⟩
              · rw [h]; exact own_sym HXY.out
              · right; rw [h]
                exact fun hh => by have := HX1.out g hh.symm; omega
            · rcases hob with h | ⟨g, h, hg, _⟩
              · rw [h]
                cases u4.ownBlock with
                | none => exact .inl rfl
                | some x => exact .inr (by simp)
              · right; rw [h]; simp
          · rintro D U W hDi ⟨hC, hcx, hcy⟩ hH
            have hWs := hC.size
            have hoW := hcy hDi
            simp only [HypsU, predsOf, Region.binds, List.filterMap_cons, List.filterMap_nil, if_true, List.nil_append, List.cons_append, List.getD_cons_zero, List.getD_cons_succ] at hH
            obtain ⟨h0, ⟨q, hq1, hq2, hq3⟩, hp4, -⟩ := hH
            have hp5 := hp4.1
            have hp6 : ∀ g, (U 4).ownBlock = some g → g < W.heap.size := fun g hg => (own_lt' hp5 g hg).2
            have HP6 := Lib.hid hp6
            clear hp4 hp5 hp6
            simp only [fillPuts, Act.put, List.setIfInBounds_toArray, List.set_cons_zero, List.set_cons_succ, Nat.reduceAdd]
            simp only [h0, hq1]
            clear h0 hq1
            go_wp2_with (at_builtin; refine append_src rfl _ _ 59 rfl w.heap.size 51 51 _ 2 16 Tryd.underlying59 pairInfo rfl (by decide) _ k _ rfl hoW q [_, _] rfl hq3 rfl ?h1 ?h63 ?hby ?hba ?_; (case h1 => simp [Value.oneCell']; done); (case h63 => exact maxLen_le (by omega)); (case hby => omega); (case hba => omega); intro v' w2 hown2 hgr2 hob2)
            refine ⟨rfl, rfl, hgr2, ?_⟩
            skip
            have e9 : ∀ v : Value, updU U 9 v 9 = v := fun v => updU_eq _ _ _
            have e4 : ∀ v : Value, updU U 9 v 4 = U 4 := fun v => rfl
            show (w2.ownsRow _ _ _ v' _ _ ∧ (v'.ownBlock = _ ∨ ∃ g, v'.ownBlock = some g ∧ _ ∧ _))
            refine ⟨by rw [xrow_succ, HY0.out, HY1'.out]; exact hown2, ?_⟩
            rcases hob2 with h | h
            · exact .inl h
            · exact .inr ⟨_, h, hWs, fun hh => by have := HP6.out _ hh; omega⟩
          simp only [List.nil_append, List.cons_append, Nat.reduceAdd]
          simp only [List.nil_append, List.cons_append, Nat.reduceAdd, fillPuts, Act.put, List.setIfInBounds_toArray, List.set_cons_zero, List.set_cons_succ]
          rintro D U W2 hD ⟨hC, -, -⟩ ⟨h0, h1, h2, h3, ⟨h4, h4o⟩, h5, h6, h7, h8, ⟨h9, h9o⟩, -⟩ -
          have h24 := hC.size
          generalize U 4 = vx at *
          generalize U 9 = vy at *
          have HOX2 := Lib.hid h4
          have HOY2 := Lib.hid h9
          have hz1 := fun k hk => (own_lt' HOZG.out k hk).2
          have HOZ2 := Lib.hid (hC.own HOZG.out (own_sym HXZ.out) (own_sym HYZ.out))
          have HB2 := Lib.hid (HGB.out.trans (hC.below (fun k hk => (own_lt' HOXG.out k hk).1) (fun k hk => (own_lt' HOYG.out k hk).1) HGB.out.size))
          have hWs := HB2.out.size
          have hxy2 : vx.ownBlock = none ∨ vx.ownBlock ≠ vy.ownBlock := by
            rcases h9o with h | ⟨g, h, hg, hne⟩
            · rcases h4o with h' | ⟨g', h', hg'⟩
              · rw [h, h']; exact HXY.out
              · right; rw [h, h']
                exact fun hh => by have := HY1.out g' hh.symm; omega
            · right; rw [h]; exact hne
          have hxz2 : vx.ownBlock = none ∨ vx.ownBlock ≠ u5.ownBlock := by
            rcases h4o with h' | ⟨g', h', hg'⟩
            · rw [h']; exact HXZ.out
            · right; rw [h']
              exact fun hh => by have := hz1 g' hh.symm; omega
          have hyz2 : vy.ownBlock = none ∨ vy.ownBlock ≠ u5.ownBlock := by
            rcases h9o with h' | ⟨g', h', hg', _⟩
            · rw [h']; exact HYZ.out
            · right; rw [h']
              exact fun hh => by have := hz1 g' hh.symm; omega
          have hxl := fun k hk => (own_lt' HOX2.out k hk).2
          have hyl := fun k hk => (own_lt' HOY2.out k hk).2
          have HXY2 := Lib.hid hxy2
          have HXZ2 := Lib.hid hxz2
          have HYZ2 := Lib.hid hyz2
          have HXL := Lib.hid hxl
          have HYL := Lib.hid hyl
          obtain ⟨w0, w1, w2, w3⟩ := HEC.out W2 hC
          have hoz := HOZ2.out
          simp only [h0, h1, h2, h5, h6, h7]
          clear h0 h1 h2 h3 h4 h5 h6 h7 h8 h9 h4o h9o hC hz1 hxy2 hxz2 hyz2 hxl hyl hD HC
          go_wp2_with (at_builtin; refine wpList_append_one rfl _ _ 59 rfl w.heap.size 51 _ 2 16 Tryd.underlying59 pairInfo rfl (by decide) _ k _ rfl hoz _ [_, _] rfl ?hg rfl ?h1 ?h63 ?hby ?hba ?_; (case hg => rfl); (case h1 => simp [Value.oneCell']; done); (case h63 => exact maxLen_le (by omega)); (case hby => omega); (case hba => omega); intro v' w4 hown4 hbel4 hgr4 hob4)
          go_roundw
          case rel =>
            refine ⟨k + 1, by omega, by go_num, fun j hj => ?_, HOX2.out.kept hgr4 HXZ2.out, HOY2.out.kept hgr4 HYZ2.out, ?_, HXY2.out, ?_, ?_, HB2.out.trans hbel4⟩
            · by_cases e : j < k
              · exact HOK.out j e
              · obtain rfl : j = k := by omega
                exact ⟨by have := HK0.out; unfold okP at this ⊢; rw [HX0.out, HX1'.out]; exact this, by have := HK1.out; unfold okP at this ⊢; rw [HY0.out, HY1'.out]; exact this⟩
            · rw [xrow_succ]
              simp only [HX0.out, HX1'.out, HY0.out, HY1'.out]
              exact hown4
            · rcases hob4 with h | h
              · rw [h]; exact HXZ2.out
              · rw [h]
                cases hvx : vx.ownBlock with
                | none => exact .inl rfl
                | some x => exact .inr (fun hh => by have := HXL.out x hvx; simp at hh; omega)
            · rcases hob4 with h | h
              · rw [h]; exact HYZ2.out
              · rw [h]
                cases hvy : vy.ownBlock with
                | none => exact .inl rfl
                | some x => exact .inr (fun hh => by have := HYL.out x hvy; simp at hh; omega)
          case measure => simp [intOf]; omega
    · obtain rfl : k = n := by omega
      have hk16 : k ≤ 16 := by omega
      have hTo : CosW Wo := HT.out.below HBEL.out
      have HTo := Lib.hid hTo
      have HLen := Lib.hid (lens ⟨k, by omega⟩)
      clear HC hTo
      have hbig := fun (a0 a1 a2 a3 b0 b1 b2 b3 : Int) w => eq_flat (P := Tryd.prog) 67 3 [.int .i64, .int .u64, .int .i64, .int .u64] (by kernel_rfl) (by decide) (by kernel_rfl) [.int .i64 a0, .int .u64 a1, .int .i64 a2, .int .u64 a3] [.int .i64 b0, .int .u64 b1, .int .i64 b2, .int .u64 b3] rfl rfl w
      rcases HLen.out with h0 | ⟨s, hs⟩ | ⟨s, hs1, hs2⟩
      · simp only at h0
        subst h0
        obtain ⟨A1, c1, hu3⟩ := own_slice' HOX.out
        obtain ⟨A2, c2, hu4⟩ := own_slice' HOY.out
        obtain ⟨A3, c3, hu5⟩ := own_slice' HOZ.out
        clear HXY HXZ HYZ HOX HOY HOZ HLen
        subst hu3 hu4 hu5
        have dn := Lib.hid direct_none
        go_wp2_with (go_at_call 23; refine (dn.out _ _ _).mono ?_; rintro e w' ⟨rfl, rfl⟩)
        go_loopw [93] (fun cnt wr => cnt = .int .i64 0 ∧ wr = Wo) (fun _ _ => 0)
        case atStart => exact ⟨rfl, rfl⟩
        case round =>
          obtain ⟨rfl, rfl⟩ := hrel
          go_wp2
          go_ret
          exact ⟨rfl, HBEL.out⟩
      · simp only at hs
        have dx := Lib.hid (fun W (h : Below Wo.heap.size Wo W) => direct_row s.val (by omega) (ownsRow_below HOX.out h) hs (fun j hj => by have := (HOK.out j hj).1; unfold okP In64 at *; omega) (HTo.out.below h))
        have dy := Lib.hid (fun W (h : Below Wo.heap.size Wo W) => direct_row s.val (by omega) (ownsRow_below HOY.out h) hs (fun j hj => by have := (HOK.out j hj).2; unfold okP In64 at *; omega) (HTo.out.below h))
        have dz := Lib.hid (fun W (h : Below Wo.heap.size Wo W) => direct_row s.val (by omega) (ownsRow_below HOZ.out h) hs (fun j hj => by have := HOK.out j hj; unfold okP In64 at *; simp only; omega) (HTo.out.below h))
        have Hs := Lib.hid hs
        clear hs HLen
        go_wp2_with fail
        refine (dx.out _ (Below.refl _ _)).mono ?_
        rintro e W1 ⟨ga, ca, rfl, hga1, hga2, hga3, hgab⟩
        have HGA := Lib.hid hga3
        clear hga3
        go_wp2_with fail
        refine (dy.out _ (by (repeat' (first | (with_reducible exact Below.refl _ _) | (with_reducible assumption) | (with_reducible refine Below.alloc ?_ ?_ _) | (with_reducible refine below_grew ?_ ?_ _) | (with_reducible refine Below.setCell ?_ ?_ _) | (with_reducible refine Below.drew ?_) | (with_reducible refine below_drewN ?_ _) | omega | (simp; done) | (simp; omega))))).mono ?_
        rintro e W2 ⟨gb, cb, rfl, hgb1, hgb2, hgb3, hgbb⟩
        have HGB := Lib.hid hgb3
        clear hgb3
        go_wp2_with fail
        refine (dz.out _ (hgab.trans (hgbb.mono hgab.size))).mono ?_
        rintro e W3 ⟨gc, cc, rfl, hgc1, hgc2, hgc3, hgcb⟩
        have HGC := Lib.hid hgc3
        clear hgc3
        have hab := hgab.size
        have hbb := hgbb.size
        have hcb := hgcb.size
        have HBW := Lib.hid (show Below w.heap.size w W3 from (HBEL.out.trans (hgab.mono hws)).trans ((hgbb.mono (by omega)).trans (hgcb.mono (by omega))))
        have lga : ga < W3.heap.size := by omega
        have lgb : gb < W3.heap.size := by omega
        have hcx : ∀ j, j < k → ∀ i u, (bigCells (sumTo s.val ((List.range k).map X) j k))[i]? = some u → W3.cell? ⟨ga, j * 4 + i, none⟩ = some u := fun j hj i u hu => (hgcb.cell (p := ⟨ga, _, none⟩) (show ga < W2.heap.size by omega)).trans ((hgbb.cell (p := ⟨ga, _, none⟩) hga2).trans (HGA.out j hj i u hu))
        have hcy : ∀ j, j < k → ∀ i u, (bigCells (sumTo s.val ((List.range k).map Y) j k))[i]? = some u → W3.cell? ⟨gb, j * 4 + i, none⟩ = some u := fun j hj i u hu => (hgcb.cell (p := ⟨gb, _, none⟩) hgb2).trans (HGB.out j hj i u hu)
        have hsum : ∀ j, sumTo s.val ((List.range k).map (fun j => ((X j).1 + (Y j).1, (X j).2 + (Y j).2))) j k = ((sumTo s.val ((List.range k).map X) j k).1 + (sumTo s.val ((List.range k).map Y) j k).1, (sumTo s.val ((List.range k).map X) j k).2 + (sumTo s.val ((List.range k).map Y) j k).2) := fun j => sumTo_add s.val _ _ _ j (fun i => by
          by_cases hi : i < k
          · rw [getD_map _ k i hi, getD_map _ k i hi, getD_map _ k i hi]
          · have hn : ∀ f : Nat → Int × Int, ((List.range k).map f).getD i (0, 0) = (0, 0) := fun f => by
              rw [List.getD_eq_getElem?_getD, List.getElem?_eq_none (by simp; omega)]; rfl
            rw [hn, hn, hn]; rfl) k
        have HCX := Lib.hid hcx
        have HCY := Lib.hid hcy
        have HSUM := Lib.hid hsum
        clear hcx hcy hsum HGA HGB hgab hgbb hgcb dx dy dz HXY HXZ HYZ HOX HOY HOZ HOK Hs HBEL HTo hab hbb hcb
        have hP := bigPlus_any
        have hM := bigMinus_any
        unfold bigAgg at hP hM
        have HP := Lib.hid hP
        have HM := Lib.hid hM
        clear hP hM
        go_wp2_with fail
        go_loopw [93] (fun cnt wr => ∃ j : Nat, j ≤ k ∧ cnt = .int .i64 j ∧ ∃ x, wr = W3.grew x) (fun cnt _ => k - (intOf cnt).toNat)
        case atStart => exact ⟨0, by omega, rfl, World.as_grew _⟩
        case round =>
          obtain ⟨j, hj, rfl, x, rfl⟩ := hrel
          by_cases hlt2 : j < k
          · have hlt3 : (j : Int) < k := by omega
            have hj0 : (0 : Int) ≤ j := by omega
            have hz := HGC.out j hlt2
            rw [HSUM.out j] at hz
            have a0 := HCX.out j hlt2 0 _ rfl
            have a1 := HCX.out j hlt2 1 _ rfl
            have a2 := HCX.out j hlt2 2 _ rfl
            have a3 := HCX.out j hlt2 3 _ rfl
            have b0 := HCY.out j hlt2 0 _ rfl
            have b1 := HCY.out j hlt2 1 _ rfl
            have b2 := HCY.out j hlt2 2 _ rfl
            have b3 := HCY.out j hlt2 3 _ rfl
            have c0 := hz 0 _ rfl
            have c1 := hz 1 _ rfl
            have c2 := hz 2 _ rfl
            have c3 := hz 3 _ rfl
            clear hz
            simp only [Nat.add_zero] at a0 b0 c0
            generalize (sumTo s.val ((List.range k).map X) j k).1 = p at *
            generalize (sumTo s.val ((List.range k).map X) j k).2 = q at *
            generalize (sumTo s.val ((List.range k).map Y) j k).1 = r at *
            generalize (sumTo s.val ((List.range k).map Y) j k).2 = t at *
            have hp2 := fun W => HP.out p q r t W
            have hm2 := fun W => HM.out (p + r) (q + t) r t W
            simp only [Int.add_sub_cancel] at hm2
            have HP2 := Lib.hid hp2
            have HM2 := Lib.hid hm2
            clear hp2 hm2
            generalize accHi (p + r) = z0 at *
            generalize accLo (p + r) = z1 at *
            generalize accHi (q + t) = z2 at *
            generalize accLo (q + t) = z3 at *
            go_wp2_with fail
            first | refine wp_region_grew_all2 (by kernel_rfl) (by kernel_rfl) ?_ | refine wp_region_grew_all (by kernel_rfl) (by kernel_rfl) ?_
            repeat (go_big_quiet_step (first | (go_at_call 24; exact Calls.grew_of (HP2.out _)) | (go_at_call 25; exact Calls.grew_of (HM2.out _))))
            refine wpQuiet_nil ?_
            rintro _ ⟨x, rfl⟩
            go_wp2
            go_roundw
            case rel => exact ⟨j + 1, by omega, by go_num, _, rfl⟩
            case measure => simp [intOf]; omega
          · obtain rfl : j = k := by omega
            go_wp2
            go_ret
            exact ⟨rfl, below_grew HBW.out (by have := HBW.out.size; omega) _⟩
      · simp only at hs1 hs2
        obtain ⟨A1, c1, hu3⟩ := own_slice' HOX.out
        obtain ⟨A2, c2, hu4⟩ := own_slice' HOY.out
        obtain ⟨A3, c3, hu5⟩ := own_slice' HOZ.out
        have dn := Lib.hid (direct_no k s.val (by omega) (by omega) hs1 hs2)
        clear HXY HXZ HYZ HOX HOY HOZ HLen hs1 hs2
        subst hu3 hu4 hu5
        go_wp2_with (go_at_call 23; refine (dn.out _ _ _).mono ?_; rintro e w' ⟨rfl, rfl⟩)
        go_loopw [93] (fun cnt wr => cnt = .int .i64 0 ∧ wr = Wo) (fun _ _ => 0)
        case atStart => exact ⟨rfl, rfl⟩
        case round =>
          obtain ⟨rfl, rfl⟩ := hrel
          go_wp2
          go_ret
          exact ⟨rfl, HBEL.out⟩
end Go.Proofs.YtmcjbejccelagaaDoor
