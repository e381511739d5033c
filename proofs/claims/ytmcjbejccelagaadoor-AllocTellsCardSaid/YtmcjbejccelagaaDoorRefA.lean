/-
  The document's way of sharing out a budget (package spinetref14).
-/
import Derived.Test.YtmcjbejccelagaaDoorRefT
import Derived.Test.YtmcjbejccelagaaDoorAllocMW
namespace Go
open Go.RowKit
theorem setCell_own (w : World) (K i : Nat) (cs : Array Value) (T : TypeId) (f : Nat × Nat) (v : Value) (h : w.heap[K]? = some (.cells cs T f)) : (w.setCell ⟨K, i, none⟩ v).heap[K]? = some (.cells (cs.setIfInBounds i v) T f) := by
  show (w.heap.modify K _)[K]? = _
  rw [Array.getElem?_modify, if_pos rfl, h]
  rfl
theorem alloc_old (w : World) (o : Obj) (k : Nat) (h : k < w.heap.size) : (w.alloc o).heap[k]? = w.heap[k]? := by
  show (w.heap.push o)[k]? = _
  rw [Array.getElem?_push, if_neg (by omega)]
/-- All that was there stays, but one block. -/
structure But (K : Nat) (w w' : World) : Prop where
  os : w'.os = w.os
  tape : w'.tape = w.tape
  output : w'.output = w.output
  size : w.heap.size ≤ w'.heap.size
  block : ∀ k, k < w.heap.size → K ≠ k → w'.heap[k]? = w.heap[k]?
theorem But.refl (K : Nat) (w : World) : But K w w := ⟨rfl, rfl, rfl, Nat.le_refl _, fun _ _ _ => rfl⟩
theorem But.below {K : Nat} {w a b : World} (h : But K w a) (hb : Below w.heap.size a b) : But K w b :=
  ⟨hb.os.trans h.os, hb.tape.trans h.tape, hb.output.trans h.output, Nat.le_trans h.size hb.size, fun k hk hne => (hb.block k hk).trans (h.block k hk hne)⟩
theorem But.grew {K : Nat} {w a : World} (h : But K w a) (x : Grown.By) : But K w (a.grew x) := h.below (below_grew (Below.refl _ _) h.size x)
theorem But.setCell {K : Nat} {w a : World} (h : But K w a) (i : Nat) (s : Option Nat) (v : Value) : But K w (a.setCell ⟨K, i, s⟩ v) :=
  ⟨h.os, h.tape, h.output, by simpa using h.size, fun k hk hne => (setCell_block _ _ _ _ hne).trans (h.block k hk hne)⟩
theorem But.toBelow {K B : Nat} {w a : World} (h : But K w a) (hB : B ≤ K) (hs : B ≤ w.heap.size) : Below B w a :=
  ⟨h.os, h.tape, h.output, h.size, fun k hk => h.block k (by omega) (by omega)⟩
theorem But.frozen {K : Nat} {w a : World} (h : But K w a) (b o : Nat) (hb : b < w.heap.size) (hne : K ≠ b) : a.frozen? ⟨b, o, none⟩ = w.frozen? ⟨b, o, none⟩ := by
  unfold World.frozen?; rw [h.block b hb hne]
theorem But.cell {K : Nat} {w a : World} (h : But K w a) (b o : Nat) (hb : b < w.heap.size) (hne : K ≠ b) : a.cell? ⟨b, o, none⟩ = w.cell? ⟨b, o, none⟩ := by
  unfold World.cell?; rw [h.block b hb hne]
end Go
namespace Go.Proofs.YtmcjbejccelagaaDoor
open Go.RowKit Go.BigFrame Go.Vec Go.Cost Go.Proofs.YtmcjbejccelagaaDoorW.PrintWords
open RAllocTells
set_option linter.unusedSimpArgs false

/-- A slice of whole numbers in a block of its own. -/
def RowAt (w : World) (v : Value) (r : List Int) : Prop := ∃ g c cs, v = .slice (some ⟨g, 0, none⟩) r.length c ∧ w.heap[g]? = some (.cells cs 3 (0, 0)) ∧ ∀ j, j < r.length → cs[j]? = some (.int .i64 (r.getD j 0))
theorem row_facts {w : World} {base : Nat} {ok : Nat → Prop} {v : Value} {r : List Int} (h : Kd.R (Kd.int .i64) 3 w base ok v r) (hn : 0 < r.length) : RowAt w v r := by
  obtain ⟨h0, inner, hown, hr⟩ := h
  obtain ⟨hl, h2⟩ := hown
  have hz : (Kd.int .i64).sz = 1 := rfl
  have hr1 : inner.length = r.length * 1 := hr.1
  rcases h2 with ⟨rfl, he⟩ | ⟨g, cap, cur, rfl, hg, hh, rest⟩
  · rw [he] at hr1
    simp at hr1
    omega
  · refine ⟨g, cap, cur, rfl, hh, fun j hj => ?_⟩
    have h1 : (inner.drop (j * 1)).take 1 = [.int .i64 r[j]] := hr.2 j _ (List.getElem?_eq_getElem hj)
    obtain ⟨_, _, _, r4⟩ := rest
    have r5 : cur.toList.take (r.length * 1) = inner := r4
    have h3 : inner[j]? = some (.int .i64 r[j]) := by
      have := congrArg (fun l => l[0]?) h1
      simpa [List.getElem?_take, List.getElem?_drop] using this
    rw [← r5, List.getElem?_take_of_lt (by omega)] at h3
    rw [List.getD_eq_getElem?_getD, List.getElem?_eq_getElem hj]
    simpa using h3
theorem refRow (b : Nat) (hb : b < 5) (w : World) : Calls Tryd.prog 65 #[.int .i64 (widL.getD b 0)] w fun e w' => ∃ v, e = .returned v ∧ RowAt w' v (rowL (widL.getD b 0).toNat) ∧ Below w.heap.size w w' := by
  have h5 : ∀ i : Fin 5, 1 ≤ (widL.getD i.val 0).toNat ∧ (widL.getD i.val 0).toNat ≤ 16 ∧ widL.getD i.val 0 = ((widL.getD i.val 0).toNat : Nat) := by decide
  obtain ⟨h1, h2, h3⟩ := h5 ⟨b, hb⟩
  simp only at h1 h2 h3
  have h4 := row_in (widL.getD b 0).toNat ⟨h1, h2⟩
  rw [← h3] at h4
  exact (spinetref13_Row.calls 2000 _ _ w h4).mono fun e w' ⟨v, he, hR, hb⟩ => ⟨v, he, row_facts hR (by rw [rowL_len]; omega), hb⟩

theorem RowAt.below {w w' : World} {v : Value} {r : List Int} (h : RowAt w v r) (hb : Below w.heap.size w w') : RowAt w' v r := by
  obtain ⟨g, c, cs, hv, hg, hc⟩ := h
  exact ⟨g, c, cs, hv, (hb.block g (Array.getElem?_eq_some_iff.1 hg).1).trans hg, hc⟩
/-- An append to a row of another type leaves it. -/
theorem RowAt.grown {w w' : World} {v u : Value} {r : List Int} {base n size : Nat} {e : TypeId} {xs : List Value} (h : RowAt w v r) (ho : w.ownsRow base e size u n xs) (he : e ≠ 3) (hg : w.grownBy w' u.ownBlock) : RowAt w' v r := by
  obtain ⟨g, c, cs, hv, hb, hc⟩ := h
  refine ⟨g, c, cs, hv, (hg.block g (Array.getElem?_eq_some_iff.1 hb).1 (fun hh => ?_)).trans hb, hc⟩
  rcases ho.2 with ⟨rfl, _⟩ | ⟨g', cap, cur, rfl, _, hh', _⟩
  · exact absurd hh (by simp [Value.ownBlock])
  · have : g = g' := by
      have := hh
      simp [Value.ownBlock] at this
      omega
    subst this
    rw [hb] at hh'
    cases hh'
    exact he rfl
theorem rowsInfo : (Tryd.prog.info? 118).map (fun i => (i.zero, i.size, i.bytes)) = some (some (.slice none 0 0), 1, 24) := by kernel_rfl

/-- What is left of the places. -/
def FF (nb L b : Nat) : Nat := (3000 - L) * (nb + 1) + (nb - b) + 1
theorem runI_skip {t bud c : Int} {nb L b : Nat} {l : List Int} {s : Int} (hb : b < nb) (h : ¬(l.getD b 0 < capF (widL.getD b 0) ∧ lev t b l = L)) : runI t bud c nb (FF nb L b) L b l s = runI t bud c nb (FF nb L (b + 1)) L (b + 1) l s := by
  have e : FF nb L b = FF nb L (b + 1) + 1 := by unfold FF; omega
  rw [e]
  simp only [runI]
  rw [if_pos hb, if_neg h]
theorem runI_stop {t bud c : Int} {nb L b : Nat} {l : List Int} {s : Int} (hb : b < nb) (h : l.getD b 0 < capF (widL.getD b 0) ∧ lev t b l = L) (hs : bud < s + more c b l) : runI t bud c nb (FF nb L b) L b l s = l := by
  have e : FF nb L b = FF nb L (b + 1) + 1 := by unfold FF; omega
  rw [e]
  simp only [runI]
  rw [if_pos hb, if_pos h, if_pos hs]
theorem runI_go {t bud c : Int} {nb L b : Nat} {l : List Int} {s : Int} (hb : b < nb) (h : l.getD b 0 < capF (widL.getD b 0) ∧ lev t b l = L) (hs : ¬bud < s + more c b l) : runI t bud c nb (FF nb L b) L b l s = runI t bud c nb (FF nb L (b + 1)) L (b + 1) (inc b l) (s + more c b l) := by
  have e : FF nb L b = FF nb L (b + 1) + 1 := by unfold FF; omega
  rw [e]
  simp only [runI]
  rw [if_pos hb, if_pos h, if_neg hs]
theorem runI_next {t bud c : Int} {nb L : Nat} {l : List Int} {s : Int} (hL : L < 3000) : runI t bud c nb (FF nb L nb) L nb l s = runI t bud c nb (FF nb (L + 1) 0) ((L + 1 : Nat) : Int) 0 l s := by
  have e : FF nb L nb = FF nb (L + 1) 0 + 1 := by
    unfold FF
    obtain ⟨d, hd⟩ : ∃ d, 3000 - L = d + 1 := ⟨3000 - L - 1, by omega⟩
    rw [show 3000 - (L + 1) = d by omega, hd, Nat.add_mul]
    omega
  rw [e]
  simp only [runI]
  rw [if_neg (by omega), if_pos (by omega)]
  rfl
theorem runI_last {t bud c : Int} {nb : Nat} {l : List Int} {s : Int} : runI t bud c nb (FF nb 3000 nb) ((3000 : Nat) : Int) nb l s = l := by
  have e : FF nb 3000 nb = 0 + 1 := by unfold FF; omega
  rw [e]
  simp only [runI]
  rw [if_neg (by omega), if_neg (by omega)]
theorem runI_start {s c : Int} (hR : RightP s c) (t bud : Int) (nb : Nat) (hnb : bandsF s c = nb) : runI t bud c nb (FF nb 1 0) ((1 : Nat) : Int) 0 [0, 0, 0, 0, 0] 0 = allocF s c t bud := by
  have hbd := bandsF_bd s c
  have h := run_eq hR t bud nb hnb (FF nb 1 0) 161 1 0 [0, 0, 0, 0, 0] (by omega) (by omega) (by omega) ?_ (fit_zero s c) ?_ (by simp [sum5])
  · rw [total_zero s c hR] at h
    exact h
  · unfold FF
    have e : ((3000 : Int) - 1).toNat = 2999 := rfl
    rw [e]
    omega
  · intro j hj hcj
    have hj5 : j < 5 := by omega
    have hp := slopeR_pos t j hj5
    have e : ([0, 0, 0, 0, 0] : List Int).getD j 0 = 0 := by
      have : j = 0 ∨ j = 1 ∨ j = 2 ∨ j = 3 ∨ j = 4 := by omega
      rcases this with rfl | rfl | rfl | rfl | rfl <;> rfl
    have e1 : lev t j [0, 0, 0, 0, 0] = slopeR t j := by unfold lev; rw [e]; omega
    rw [e1]
    by_cases e2 : slopeR t j = 1
    · exact .inr ⟨e2, by omega⟩
    · exact .inl (by omega)
theorem total_le {s c : Int} (hc : 1 ≤ c ∧ c ≤ 2) (l : List Int) : -10 ≤ totalF s c l ∧ totalF s c l ≤ 2000 := by
  have h := sumAt_bd s c l 5
  unfold totalF
  split
  · have : c = 1 ∨ c = 2 := by omega
    rcases this with rfl | rfl <;> omega
  · omega
theorem five {l : List Int} (h : l.length = 5) : ∃ a0 a1 a2 a3 a4, l = [a0, a1, a2, a3, a4] := by
  match l, h with
  | [a, b, c, d, e], _ => exact ⟨a, b, c, d, e, rfl⟩
theorem row_bits (b : Nat) (hb : b < 5) (kb cp : Nat) (hcap : capF (widL.getD b 0) = cp) (h : kb ≤ cp) : (rowL (widL.getD b 0).toNat).getD kb 0 = bitsF (widL.getD b 0) kb ∧ 0 ≤ bitsF (widL.getD b 0) kb ∧ bitsF (widL.getD b 0) kb ≤ 200 := by
  have h5 : ∀ i : Fin 5, 1 ≤ widL.getD i.val 0 ∧ widL.getD i.val 0 ≤ 16 := by decide
  obtain ⟨hw1, hw2⟩ := h5 ⟨b, hb⟩
  simp only at hw1 hw2
  have hc := capF_in _ ⟨hw1, hw2⟩
  have h2 := bitsF_bd (widL.getD b 0) kb
  have h3 := bitsF_pos (widL.getD b 0) kb (by omega) (by omega)
  refine ⟨?_, h3, h2.2⟩
  rw [bitsF_eq (by omega) (by omega), List.getD_eq_getElem?_getD, rowL_at _ _ (by omega)]
  rfl
def cellsOf (l : List Int) : Array Value := (l.map (Value.int .i64)).toArray
theorem cellsOf_at {l : List Int} {j : Nat} (hj : j < l.length) : (cellsOf l)[j]? = some (.int .i64 (l.getD j 0)) := by
  unfold cellsOf
  rw [List.getElem?_toArray, List.getElem?_map, List.getElem?_eq_getElem hj, List.getD_eq_getElem?_getD, List.getElem?_eq_getElem hj]
  rfl
theorem cellsOf_set (l : List Int) (b : Nat) (x : Int) : (cellsOf l).setIfInBounds b (.int .i64 x) = cellsOf (l.set b x) := by
  unfold cellsOf
  simp [List.map_set]

set_option maxHeartbeats 4000000 in
set_option maxRecDepth 100000 in
theorem refAlloc (s c t bud : Int) (hR : RightP s c) (w : World) : Calls Tryd.prog 30 #[.int .i64 s, .int .i64 c, .int .i64 t, .int .i64 bud] w fun e w' => e = .returned (aggOf (allocF s c t bud)) ∧ Below w.heap.size w w' := by
  have hbd := bandsF_bd s c
  obtain ⟨nb, hnb⟩ := Int.eq_ofNat_of_zero_le hbd.1
  have hnb3 : 3 ≤ nb := by unfold bandsF at hnb; rw [if_pos hR] at hnb; unfold RightP at hR; omega
  have hnb5 : nb ≤ 5 := by omega
  have hbn := Lib.hid (fun w => refBands s c hR w)
  rw [hnb] at hbn
  have HR := Lib.hid hR
  have HN := Lib.hid hnb
  have hcc : 1 ≤ c ∧ c ≤ 2 := by unfold RightP at hR; omega
  obtain ⟨hcc1, hcc2⟩ := hcc
  obtain ⟨A, hA⟩ : ∃ A, A = allocF s c t bud := ⟨_, rfl⟩
  have HA := Lib.hid hA
  rw [← hA]
  clear hR hnb hbd hA
  go_enter Tryd.func30, Tryd.ntmps30
  go_wp2_with fail
  refine (hbn.out _).mono ?_
  rintro e w' ⟨rfl, hb1⟩; obtain ⟨x1, rfl⟩ := below_as_grew hb1; clear hb1
  go_wp2_with fail
  refine cut_world (fun V => Below w.heap.size w V ∧ V.heap[w.heap.size]? = some (.cells #[.int .i64 0, .int .i64 0, .int .i64 0, .int .i64 0, .int .i64 0] 22 (0, 0)) ∧ V.heap[w.heap.size + 1]? = some (.cells #[.int .i64 0, .int .i64 0, .int .i64 0, .int .i64 0, .int .i64 0] 22 (0, 0))) ⟨by (repeat' (first | (with_reducible exact Below.refl _ _) | (with_reducible assumption) | (with_reducible refine Below.alloc ?_ ?_ _) | (with_reducible refine below_grew ?_ ?_ _) | (with_reducible refine Below.setCell ?_ ?_ _) | (with_reducible refine Below.drew ?_) | (with_reducible refine below_drewN ?_ _) | omega | (simp; done) | (simp; omega))), ?_, ?_⟩ ?_
  · rw [World.grew_block _ _ _ (by simp; omega), alloc_old _ _ _ (by simp)]
    exact alloc_at _ _
  · rw [World.grew_block _ _ _ (by simp)]
    have e : w.heap.size + 1 = (w.alloc (.cells #[.int .i64 0, .int .i64 0, .int .i64 0, .int .i64 0, .int .i64 0] 22)).heap.size := by simp
    rw [e]
    exact alloc_at _ _
  rintro V ⟨hV, hv0, hv1⟩
  have hVs : w.heap.size + 1 < V.heap.size := (Array.getElem?_eq_some_iff.1 hv1).1
  generalize hBd : w.heap.size = B at *
  have HBd := Lib.hid hBd
  have HV := Lib.hid hV
  have HV0 := Lib.hid hv0
  have HV1 := Lib.hid hv1
  clear hBd hV hv0 hv1
  go_loopw [10, 12] (fun v cnt wr => ∃ k : Nat, k ≤ nb ∧ cnt = .int .i64 k ∧ ∃ vs : List Value, vs.length = k ∧ wr.ownsRow V.heap.size 118 1 v k vs ∧ (∀ j, j < k → RowAt wr (vs.getD j undef) (rowL (widL.getD j 0).toNat)) ∧ Below V.heap.size V wr) (fun _ cnt _ => nb - (intOf cnt).toNat)
  case atStart => exact ⟨0, by omega, rfl, [], rfl, World.ownsRow_nil _ _ _ _, fun j hj => absurd hj (by omega), Below.refl _ _⟩
  case round =>
    obtain ⟨k, hk, rfl, vs, hvs, hown, hrows, hbel⟩ := hrel
    have Hvs := Lib.hid hvs
    have Hrows := Lib.hid hrows
    have hbs := hbel.size
    clear hvs hrows
    by_cases hlt : k < nb
    · have hlt' : (k : Int) < nb := by omega
      have hband := Lib.hid (fun w => refBand k (by omega) w)
      have hrow := Lib.hid (fun w => refRow k (by omega) w)
      generalize hwd : widL.getD k 0 = wd at *
      generalize fromL.getD k 0 = fr at *
      have Hwd := Lib.hid hwd
      clear hwd
      go_wp2_with fail
      refine (hband.out _).mono ?_
      rintro e w' ⟨rfl, hb1⟩; obtain ⟨x1, rfl⟩ := below_as_grew hb1; clear hb1
      go_wp2_with fail
      refine (hrow.out _).mono ?_
      rintro e w2 ⟨v2, rfl, hR2, hb2⟩
      obtain ⟨g, gc, gcs, rfl, hg1, hg2⟩ := hR2
      have HG := Lib.hid (show RowAt w2 (.slice (some ⟨g, 0, none⟩) (rowL wd.toNat).length gc) (rowL wd.toNat) from ⟨g, gc, gcs, rfl, hg1, hg2⟩)
      generalize hrl : (rowL wd.toNat).length = rl at *
      clear hg1 hg2 hrl
      have hbw := (below_grew (Below.refl _ _) (Nat.le_refl _) _).trans (hb2.mono (by simp))
      have hown2 := ownsRow_below hown hbw
      have hb2s := hbw.size
      go_wp2_with (at_builtin; refine wpList_append_one rfl _ _ 115 rfl V.heap.size 118 _ 1 24 Tryd.underlying115 rowsInfo rfl (by decide) _ k _ rfl hown2 _ [_] rfl ?hg rfl ?h1 ?h63 ?hby ?hba ?_; (case hg => rfl); (case h1 => simp [Value.oneCell']; done); (case h63 => exact maxLen_le (by omega)); (case hby => omega); (case hba => omega); intro v' w3 hown3 hbel3 hgr3 _)
      go_roundw
      case rel =>
        refine ⟨k + 1, by omega, by go_num, vs ++ [_], by simp [Hvs.out], hown3, fun j hj => ?_, (hbel.trans (hbw.mono hbs)).trans hbel3⟩
        by_cases e : j < k
        · have e1 : ∀ x : Value, (vs ++ [x]).getD j undef = vs.getD j undef := fun x => by
            rw [List.getD_eq_getElem?_getD, List.getElem?_append_left (by rw [Hvs.out]; exact e), ← List.getD_eq_getElem?_getD]
          rw [e1]
          exact ((Hrows.out j e).below hbw).grown hown2 (by decide) hgr3
        · obtain rfl : j = k := by omega
          have e1 : ∀ x : Value, (vs ++ [x]).getD j undef = x := fun x => by
            rw [List.getD_eq_getElem?_getD, List.getElem?_append_right (by rw [Hvs.out]; exact Nat.le_refl _)]
            simp [Hvs.out]
          rw [e1, Hwd.out]
          exact HG.out.grown hown2 (by decide) hgr3
      case measure => simp [intOf]; omega
    · obtain rfl : k = nb := by omega
      obtain ⟨Y, rfl⟩ : ∃ Y : World, Y = wr := ⟨_, rfl⟩
      obtain ⟨G, gcap, hvv, hf1, hf2⟩ := hown.form (by omega)
      have HcG := Lib.hid (fun j u (h : vs[j]? = some u) => hown.cells (g := G) (by rw [hvv]; rfl) j u h)
      subst hvv
      have hB1 : Y.heap[B + 1]? = some (.cells (cellsOf [0, 0, 0, 0, 0]) 22 (0, 0)) := (hbel.block (B + 1) hVs).trans HV1.out
      have hB0 : Y.heap[B]? = some (.cells #[.int .i64 0, .int .i64 0, .int .i64 0, .int .i64 0, .int .i64 0] 22 (0, 0)) := (hbel.block B (by omega)).trans HV0.out
      have HW0 := Lib.hid (show Below B w Y from HV.out.trans (hbel.mono (by omega)))
      obtain ⟨b00, b01, b02⟩ := block_facts hB0
      have HB0 := Lib.hid b00
      have HB0F := Lib.hid b01
      have HB1 := Lib.hid hB1
      have hB1s : B + 1 < Y.heap.size := by omega
      -- a band's row
      have Hrow := Lib.hid (fun (W : World) (hW : But (B + 1) Y W) (j : Nat) (hj : j < k) => (show ∃ g gc, g < Y.heap.size ∧ W.cell? ⟨G, j, none⟩ = some (.slice (some ⟨g, 0, none⟩) (rowL (widL.getD j 0).toNat).length gc) ∧ ∀ i, i < (rowL (widL.getD j 0).toNat).length → W.cell? ⟨g, i, none⟩ = some (.int .i64 ((rowL (widL.getD j 0).toNat).getD i 0)) from by
        obtain ⟨g, gc, cs, hv, hg, hcs⟩ := Hrows.out j hj
        have hgl : g < Y.heap.size := (Array.getElem?_eq_some_iff.1 hg).1
        have hgB : B + 1 ≠ g := fun e => by
          subst e
          rw [HB1.out] at hg
          cases hg
        refine ⟨g, gc, hgl, ?_, fun i hi => ?_⟩
        · rw [hW.cell G j hf2 (by omega)]
          have h1 := HcG.out j (vs.getD j undef) (by rw [List.getD_eq_getElem?_getD, List.getElem?_eq_getElem (by rw [Hvs.out]; exact hj)]; rfl)
          rw [hv] at h1
          have : (⟨G, 0, none⟩ : Addr).add j = ⟨G, j, none⟩ := by unfold Addr.add; split <;> simp_all
          rw [this] at h1
          exact h1
        · rw [hW.cell g i hgl hgB]
          unfold World.cell?
          rw [hg]
          exact hcs i hi))
      have hRun := Lib.hid (runI_start HR.out t bud k HN.out)
      have hFit0 := Lib.hid (fit_zero s c)
      have hTot0 := Lib.hid (total_zero s c HR.out)
      clear hB0 b00 b01 hB1 hown hbel Hrows Hvs HcG HV HV0 HV1 hbn
      go_wp2_with fail
      go_loopw [15, 16] (fun sum lv wo => ∃ (L : Nat) (l : List Int), 1 ≤ L ∧ L ≤ 3001 ∧ lv = .int .i64 L ∧ sum = .int .i64 (totalF s c l) ∧ FitL s c l ∧ (if L ≤ 3000 then runI t bud c k (FF k L 0) L 0 l (totalF s c l) = A else l = A) ∧ But (B + 1) Y wo ∧ wo.heap[B + 1]? = some (.cells (cellsOf l) 22 (0, 0))) (fun _ lv _ => 3001 - (intOf lv).toNat)
      case atStart =>
        refine ⟨1, [0, 0, 0, 0, 0], by omega, by omega, rfl, by rw [hTot0.out], hFit0.out, ?_, But.refl _ _, HB1.out⟩
        rw [if_pos (by omega), hTot0.out, HA.out]
        exact hRun.out
      case round =>
        obtain ⟨L, l, hL1, hL2, rfl, rfl, hfit, hgo, hBut, hBl⟩ := hrel
        have HGo := Lib.hid hgo
        have HFit := Lib.hid hfit
        have HBut := Lib.hid hBut
        have HBl := Lib.hid hBl
        clear hgo hfit hBut hBl
        by_cases hLt : L ≤ 3000
        · have hLt' : (L : Int) ≤ 3000 := by omega
          have HGo1 := Lib.hid ((show (if L ≤ 3000 then runI t bud c k (FF k L 0) L 0 l (totalF s c l) = A else l = A) = (runI t bud c k (FF k L 0) L 0 l (totalF s c l) = A) from if_pos hLt) ▸ HGo.out)
          clear HGo
          have hYs := HBut.out.size
          go_wp2_with fail
          go_loopw [15, 17] (fun sum bd wi => ∃ (b : Nat) (li : List Int), b ≤ k ∧ bd = .int .i64 b ∧ sum = .int .i64 (totalF s c li) ∧ FitL s c li ∧ runI t bud c k (FF k L b) L b li (totalF s c li) = A ∧ But (B + 1) Y wi ∧ wi.heap[B + 1]? = some (.cells (cellsOf li) 22 (0, 0))) (fun _ bd _ => k - (intOf bd).toNat)
          case atStart => exact ⟨0, l, by omega, rfl, rfl, HFit.out, HGo1.out, HBut.out, HBl.out⟩
          case round =>
            obtain ⟨b, li, hbk, rfl, rfl, hfit2, hgo2, hBut2, hBl2⟩ := hrel
            obtain ⟨W, rfl⟩ : ∃ W : World, W = wr := ⟨_, rfl⟩
            by_cases hb : b < k
            · have hb' : (b : Int) < k := by omega
              have hb0 : (0 : Int) ≤ b := by omega
              have hb5 : (b : Int) < 5 := by omega
              have hbb : (b : Int) < bandsF s c := by rw [HN.out]; exact hb'
              have hWs := hBut2.size
              obtain ⟨g, gc, hgl, hG1, hG2⟩ := Hrow.out W hBut2 b hb
              have HG2 := Lib.hid hG2
              have lG : G < W.heap.size := by omega
              have lg : g < W.heap.size := by omega
              obtain ⟨hlen, hin⟩ := hfit2
              obtain ⟨hk0, hk1⟩ := hin b (by omega)
              rw [if_pos hbb, width_in hbb] at hk1
              obtain ⟨kb, hkb⟩ := Int.eq_ofNat_of_zero_le hk0
              obtain ⟨bc, bf, bl⟩ := block_facts hBl2
              have hkc := bc b
              rw [cellsOf_at (by rw [hlen]; omega), hkb] at hkc
              have h5 : ∀ i : Fin 5, 1 ≤ widL.getD i.val 0 ∧ widL.getD i.val 0 ≤ 16 := by decide
              obtain ⟨hw1, hw2⟩ := h5 ⟨b, by omega⟩
              simp only at hw1 hw2
              have hcap : capF (widL.getD b 0) = (cap (widL.getD b 0).toNat : Nat) := capF_in _ ⟨hw1, hw2⟩
              have hrl := rowL_len (widL.getD b 0).toNat
              have hcle := cap_le ⟨(widL.getD b 0).toNat, by omega⟩
              simp only at hcle
              rw [hrl] at hG1
              rw [hcap, hkb] at hk1
              have hsl := slopeR_pos t b (by omega)
              have hrs := Lib.hid (fun w => refSlope t b (by omega) w)
              have Hlev := Lib.hid (show lev t b li = ((kb : Int) + 1) * slopeR t b from by unfold lev; rw [hkb])
              have Hkb := Lib.hid hkb
              have Hcap := Lib.hid hcap
              have HGo2 := Lib.hid hgo2
              have HFit2 := Lib.hid (show FitL s c li from ⟨hlen, hin⟩)
              have HBut2 := Lib.hid hBut2
              have HBl2 := Lib.hid hBl2
              have Hbf := Lib.hid bf
              have Hbc := Lib.hid bc
              have hslm : 0 ≤ ((kb : Int) + 1) * slopeR t b ∧ ((kb : Int) + 1) * slopeR t b ≤ 33 * 64 := ⟨Int.mul_nonneg (by omega) (by omega), Int.le_trans (Int.mul_le_mul_of_nonneg_right (show (kb : Int) + 1 ≤ 33 by omega) (by omega)) (Int.mul_le_mul_of_nonneg_left hsl.2 (by omega))⟩
              generalize hsr : slopeR t b = sl at *
              generalize hlv : ((kb : Int) + 1) * sl = lvl at *
              have Hlv := Lib.hid hlv
              obtain ⟨hsl1, hsl2⟩ := hsl
              obtain ⟨hslm1, hslm2⟩ := hslm
              have hW64 : wrap64 (((kb : Int) + 1) * sl) = lvl := by rw [hlv]; exact IntWalk.wrap64_in _ (by omega)
              clear hG2 hlen hin hkb hcap hrl hgo2 hBut2 hBl2 bc bf hsr hlv h5 hbb
              generalize hcp : cap (widL.getD b 0).toNat = cp at *
              by_cases hfull : cp ≤ kb
              · have hfull' : (cp : Int) ≤ kb := by omega
                have D1 : decide ((cp : Int) ≤ kb) = true := decide_eq_true hfull'
                have D1' : decide (cp ≤ kb) = true := decide_eq_true hfull
                have D1'' : decide ((cp : Int) + 1 ≤ kb + 1) = true := decide_eq_true (by omega)
                go_wp2_with fail
                first | refine wp_region_grew_all2 (by kernel_rfl) (by kernel_rfl) ?_ | refine wp_region_grew_all (by kernel_rfl) (by kernel_rfl) ?_
                repeat (go_big_quiet_step (fail))
                refine wpQuiet_nil ?_
                rintro _ ⟨x, rfl⟩
                go_wp2
                go_roundw
                case rel => exact ⟨b + 1, li, by omega, by go_num, rfl, HFit2.out, (runI_skip hb (by rw [Hkb.out, Hcap.out]; omega)).symm.trans HGo2.out, HBut2.out.grew _, by rw [World.grew_block _ _ _ bl]; exact HBl2.out⟩
                case measure => simp [intOf]; omega
              · have hfull' : ¬ (cp : Int) ≤ kb := by omega
                have D1 : decide ((cp : Int) ≤ kb) = false := decide_eq_false hfull'
                have D1' : decide (cp ≤ kb) = false := decide_eq_false hfull
                have D1'' : decide ((cp : Int) + 1 ≤ kb + 1) = false := decide_eq_false (by omega)
                by_cases hlv2 : lvl = L
                · have D2 : (lvl != (L : Int)) = false := by simpa using hlv2
                  have Hfire := Lib.hid (show li.getD b 0 < capF (widL.getD b 0) ∧ lev t b li = L from ⟨by rw [Hkb.out, Hcap.out]; omega, by rw [Hlev.out]; exact hlv2⟩)
                  have hr0 := row_bits b (by omega) kb cp Hcap.out (by omega)
                  have hr1 := row_bits b (by omega) (kb + 1) cp Hcap.out (by omega)
                  have x0 := HG2.out kb (by rw [rowL_len, hcp]; omega)
                  have x1 := HG2.out (kb + 1) (by rw [rowL_len, hcp]; omega)
                  rw [hr0.1] at x0
                  rw [hr1.1] at x1
                  have Hmore := Lib.hid (show more c b li = c * (bitsF (widL.getD b 0) ((kb + 1 : Nat) : Int) - bitsF (widL.getD b 0) kb) from by unfold more; rw [Hkb.out]; push_cast; rfl)
                  have Htot := Lib.hid (total_inc HR.out HFit2.out b (by rw [HN.out]; exact hb') Hfire.out.1)
                  have hT := total_le (s := s) ⟨hcc1, hcc2⟩ li
                  obtain ⟨_, hr01, hr02⟩ := hr0
                  obtain ⟨_, hr11, hr12⟩ := hr1
                  generalize bitsF (widL.getD b 0) ((kb + 1 : Nat) : Int) = r1 at *
                  generalize bitsF (widL.getD b 0) (kb : Int) = r0 at *
                  have hm : -400 ≤ c * (r1 - r0) ∧ c * (r1 - r0) ≤ 400 := by
                    have : c = 1 ∨ c = 2 := by omega
                    rcases this with rfl | rfl <;> omega
                  generalize hmm : c * (r1 - r0) = mm at *
                  have hM64 : wrap64 (c * (r1 - r0)) = mm := by rw [hmm]; exact IntWalk.wrap64_in _ (by omega)
                  obtain ⟨hm1, hm2⟩ := hm
                  obtain ⟨hT1, hT2⟩ := hT
                  generalize hTT : totalF s c li = T at *
                  have HTT := Lib.hid hTT
                  clear hlv2 hmm hTT hcp
                  by_cases hbud : bud < T + mm
                  · have HEND := Lib.hid (show li = A from (runI_stop hb Hfire.out (by rw [Hmore.out]; exact hbud)).symm.trans HGo2.out)
                    have hBut2 := HBut2.out
                    obtain ⟨a0, a1, a2, a3, a4, hli⟩ := five HFit2.out.1
                    have HLI := Lib.hid hli
                    have i0 := Hbc.out 0
                    have i1 := Hbc.out 1
                    have i2 := Hbc.out 2
                    have i3 := Hbc.out 3
                    have i4 := Hbc.out 4
                    rw [hli] at i0 i1 i2 i3 i4
                    have q0 := (hBut2.cell B 0 b02 (by omega)).trans (HB0.out 0)
                    have q1 := (hBut2.cell B 1 b02 (by omega)).trans (HB0.out 1)
                    have q2 := (hBut2.cell B 2 b02 (by omega)).trans (HB0.out 2)
                    have q3 := (hBut2.cell B 3 b02 (by omega)).trans (HB0.out 3)
                    have q4 := (hBut2.cell B 4 b02 (by omega)).trans (HB0.out 4)
                    have f0 := (hBut2.frozen B 0 b02 (by omega)).trans (HB0F.out 0)
                    have f1 := (hBut2.frozen B 1 b02 (by omega)).trans (HB0F.out 1)
                    have f2 := (hBut2.frozen B 2 b02 (by omega)).trans (HB0F.out 2)
                    have f3 := (hBut2.frozen B 3 b02 (by omega)).trans (HB0F.out 3)
                    have f4 := (hBut2.frozen B 4 b02 (by omega)).trans (HB0F.out 4)
                    have HBW := Lib.hid (show Below B w W from HW0.out.trans (hBut2.toBelow (by omega) (by omega)))
                    have lBW : B < W.heap.size := by omega
                    simp only [cellsOf, List.map_cons, List.map_nil, List.getElem?_toArray, List.getElem?_cons_zero, List.getElem?_cons_succ] at i0 i1 i2 i3 i4 q0 q1 q2 q3 q4
                    clear hBut2 hli
                    go_wp2_with fail
                    first | refine wp_region_grew_all2 (by kernel_rfl) (by kernel_rfl) ?_ | refine wp_region_grew_all (by kernel_rfl) (by kernel_rfl) ?_
                    repeat (go_big_quiet_step (first | (go_at_call 34; exact Calls.grew_of (hrs.out _))))
                    refine wpQuiet_nil ?_
                    rintro _ ⟨x, rfl⟩
                    go_wp2_with fail
                    first | refine wp_region_grew_all2 (by kernel_rfl) (by kernel_rfl) ?_ | refine wp_region_grew_all (by kernel_rfl) (by kernel_rfl) ?_
                    repeat (go_big_quiet_step (fail))
                    refine wpQuiet_nil ?_
                    rintro _ ⟨x, rfl⟩
                    go_wp2
                    refine bodyPost_ret (v := _) (by simp [results, Tryd.results30, go_sem, lBW, q0, q1, q2, q3, q4]; rfl) rfl ⟨?_, ?_⟩
                    · rw [← HEND.out, HLI.out]; rfl
                    · rw [HBd.out]
                      have hbase := HBW.out
                      (repeat' (first | (with_reducible exact Below.refl _ _) | (with_reducible assumption) | (with_reducible refine Below.alloc ?_ ?_ _) | (with_reducible refine below_grew ?_ ?_ _) | (with_reducible refine Below.setCell ?_ ?_ _) | (with_reducible refine Below.drew ?_) | (with_reducible refine below_drewN ?_ _) | omega | (simp; done) | (simp; omega)))
                  · have HGO3 := Lib.hid ((runI_go hb Hfire.out (by rw [Hmore.out]; exact hbud)).symm.trans HGo2.out)
                    have bf0 := Hbf.out b
                    go_wp2_with fail
                    first | refine wp_region_grew_all2 (by kernel_rfl) (by kernel_rfl) ?_ | refine wp_region_grew_all (by kernel_rfl) (by kernel_rfl) ?_
                    repeat (go_big_quiet_step (first | (go_at_call 34; exact Calls.grew_of (hrs.out _))))
                    refine wpQuiet_nil ?_
                    rintro _ ⟨x, rfl⟩
                    go_wp2_with fail
                    first | refine wp_region_grew_all2 (by kernel_rfl) (by kernel_rfl) ?_ | refine wp_region_grew_all (by kernel_rfl) (by kernel_rfl) ?_
                    repeat (go_big_quiet_step (fail))
                    refine wpQuiet_nil ?_
                    rintro _ ⟨x, rfl⟩
                    go_wp2
                    go_roundw
                    case rel =>
                      have hTi : totalF s c (inc b li) = T + mm := by rw [Htot.out, Hmore.out]
                      have hinc : inc b li = li.set b ((kb : Int) + 1) := by unfold inc; rw [Hkb.out]
                      refine ⟨b + 1, inc b li, by omega, by go_num, by rw [hTi], (fit_inc HFit2.out b (by rw [HN.out]; exact hb') Hfire.out.1).1, ?_, (HBut2.out.setCell b none _).grew _, ?_⟩
                      · rw [hTi, ← Hmore.out]; exact HGO3.out
                      · rw [World.grew_block _ _ _ (by simpa using bl), setCell_own _ _ _ _ _ _ _ HBl2.out, cellsOf_set, hinc]
                    case measure => simp [intOf]; omega
                · have D2 : (lvl != (L : Int)) = true := by simpa using hlv2
                  have Hlv2 := Lib.hid hlv2
                  clear hlv2
                  go_wp2_with fail
                  first | refine wp_region_grew_all2 (by kernel_rfl) (by kernel_rfl) ?_ | refine wp_region_grew_all (by kernel_rfl) (by kernel_rfl) ?_
                  repeat (go_big_quiet_step (first | (go_at_call 34; exact Calls.grew_of (hrs.out _))))
                  refine wpQuiet_nil ?_
                  rintro _ ⟨x, rfl⟩
                  go_wp2
                  go_roundw
                  case rel => exact ⟨b + 1, li, by omega, by go_num, rfl, HFit2.out, (runI_skip hb (by rw [Hlev.out]; exact fun h => Hlv2.out h.2)).symm.trans HGo2.out, HBut2.out.grew _, by rw [World.grew_block _ _ _ bl]; exact HBl2.out⟩
                  case measure => simp [intOf]; omega
            · obtain rfl : b = k := by omega
              have HGo2 := Lib.hid hgo2
              have HFit2 := Lib.hid hfit2
              have HBut2 := Lib.hid hBut2
              have HBl2 := Lib.hid hBl2
              clear hgo2 hfit2 hBut2 hBl2
              go_wp2
              go_roundw
              case rel =>
                refine ⟨L + 1, li, by omega, by omega, by go_num, rfl, HFit2.out, ?_, HBut2.out, HBl2.out⟩
                by_cases e : L < 3000
                · rw [if_pos (by omega)]
                  exact (runI_next e).symm.trans HGo2.out
                · obtain rfl : L = 3000 := by omega
                  rw [if_neg (by omega)]
                  exact runI_last.symm.trans HGo2.out
              case measure => simp [intOf]; omega
        · obtain ⟨W, rfl⟩ : ∃ W : World, W = wr := ⟨_, rfl⟩
          have HEND := Lib.hid ((show (if L ≤ 3000 then runI t bud c k (FF k L 0) L 0 l (totalF s c l) = A else l = A) = (l = A) from if_neg hLt) ▸ HGo.out)
          have HBut2 := HBut
          have HFit2 := HFit
          obtain ⟨bc, bf, bl⟩ := block_facts HBl.out
          have Hbc := Lib.hid bc
          clear bc bf HGo
          have hWs := HBut.out.size
          have hBut2 := HBut2.out
          obtain ⟨a0, a1, a2, a3, a4, hli⟩ := five HFit2.out.1
          have HLI := Lib.hid hli
          have i0 := Hbc.out 0
          have i1 := Hbc.out 1
          have i2 := Hbc.out 2
          have i3 := Hbc.out 3
          have i4 := Hbc.out 4
          rw [hli] at i0 i1 i2 i3 i4
          have q0 := (hBut2.cell B 0 b02 (by omega)).trans (HB0.out 0)
          have q1 := (hBut2.cell B 1 b02 (by omega)).trans (HB0.out 1)
          have q2 := (hBut2.cell B 2 b02 (by omega)).trans (HB0.out 2)
          have q3 := (hBut2.cell B 3 b02 (by omega)).trans (HB0.out 3)
          have q4 := (hBut2.cell B 4 b02 (by omega)).trans (HB0.out 4)
          have f0 := (hBut2.frozen B 0 b02 (by omega)).trans (HB0F.out 0)
          have f1 := (hBut2.frozen B 1 b02 (by omega)).trans (HB0F.out 1)
          have f2 := (hBut2.frozen B 2 b02 (by omega)).trans (HB0F.out 2)
          have f3 := (hBut2.frozen B 3 b02 (by omega)).trans (HB0F.out 3)
          have f4 := (hBut2.frozen B 4 b02 (by omega)).trans (HB0F.out 4)
          have HBW := Lib.hid (show Below B w W from HW0.out.trans (hBut2.toBelow (by omega) (by omega)))
          have lBW : B < W.heap.size := by omega
          simp only [cellsOf, List.map_cons, List.map_nil, List.getElem?_toArray, List.getElem?_cons_zero, List.getElem?_cons_succ] at i0 i1 i2 i3 i4 q0 q1 q2 q3 q4
          clear hBut2 hli
          go_wp2
          refine bodyPost_ret (v := _) (by simp [results, Tryd.results30, go_sem, lBW, q0, q1, q2, q3, q4]; rfl) rfl ⟨?_, ?_⟩
          · rw [← HEND.out, HLI.out]; rfl
          · rw [HBd.out]
            have hbase := HBW.out
            (repeat' (first | (with_reducible exact Below.refl _ _) | (with_reducible assumption) | (with_reducible refine Below.alloc ?_ ?_ _) | (with_reducible refine below_grew ?_ ?_ _) | (with_reducible refine Below.setCell ?_ ?_ _) | (with_reducible refine Below.drew ?_) | (with_reducible refine below_drewN ?_ _) | omega | (simp; done) | (simp; omega)))
end Go.Proofs.YtmcjbejccelagaaDoor
