/-
  spinetlaw26.awake.
  (One text out of these parts: Without, Idx, StRight, Peak, StL, RefRight, Awake26.)
-/
import Derived.Test.YtcibajleknhklaaDoorMstb
import Derived.Laws.PanicsMore
import Derived.Test.YtcibajleknhklaaDoorProg
section
namespace Go.Proofs.YtcibajleknhklaaDoor
open Go.RowKit Go.BigFrame Go.Proofs.YtcibajleknhklaaDoorW.PrintWords Go.Proofs.YtcibajleknhklaaDoorW.PrintLast Go.Proofs.YtcibajleknhklaaDoorW.PrintMore
open PStateTells RStateTells
set_option linter.unusedSimpArgs false
set_option linter.unusedVariables false
theorem zeroI64 (w : World) : (zeroValue 3).run Tryd.prog w = .ok (.int .i64 0) w := by kernel_rfl
/-- So many channels struck out. -/
def wk (n nb k : Nat) (st : Nat → Int) : Nat → Int := fun j => if 140 ≤ j then st j else wo n nb k st j
theorem wk_zero (n nb : Nat) (st : Nat → Int) (j : Nat) (hj : j < 142) : st j = wk n nb 0 st j := by
  unfold wk wo
  (repeat' split) <;> first | rfl | omega
theorem rep_get (n i : Nat) : (List.replicate n (0 : Int)).getD i 0 = 0 := by
  rw [List.getD_eq_getElem?_getD, List.getElem?_replicate]; split <;> rfl
theorem wk_step (n nb k : Nat) (st : Nat → Int) (hn : n ≤ 32) (hnb : nb ≤ 5) (hk : k < 2) (j : Nat) :
    updI (overF (overF (overF (wk n nb k st) (k * 5) (List.replicate nb 0)) (10 + k * 32) (List.replicate n 0)) (74 + k * 32) (List.replicate n 0)) (138 + k) 0 j = wk n nb (k + 1) st j := by
  unfold updI overF
  simp only [List.length_replicate, rep_get]
  unfold wk wo
  (repeat' split) <;> first | rfl | omega
theorem kS_E (j : Nat) (h : j < 10) : kS j = .i64 := by unfold kS; rw [if_pos h]
theorem kS_I (j : Nat) (h : 10 ≤ j) (h2 : j < 140) : kS j = .i32 := by unfold kS; rw [if_neg (by omega), if_pos h2]
/-- What a clear makes of a part of a block of whole numbers. -/
theorem clear_bx {P : Program} {B T N o n cp : Nat} {k : Nat → IntKind} {f : Nat → Int} {W : World} (h : Bx B T k N f W) (κ : IntKind) (t e : TypeId) (ht : P.underlying t = some (.slice e)) (hz : ∀ w, (zeroValue e).run P w = .ok (.int κ 0) w) (hn : 0 < n) (hN : o + n ≤ N) (hk : ∀ j, o ≤ j → j < o + n → k j = κ) :
    ∃ W', Only B W W' ∧ Bx B T k N (overF f o (List.replicate n 0)) W' ∧ ∀ ty, (Builtin.clear_ #[t] ty #[.slice (some ⟨B, o, none⟩) n cp]).run P W = .ok (.tuple #[]) W' := by
  have hb := bx_setCells h κ o (List.replicate n 0) (by simp; omega) (fun j h1 h2 => hk j h1 (by simpa using h2))
  rw [List.map_replicate] at hb
  exact ⟨_, only_setCells _ _ _ _, hb, fun ty => Lib.run_clear_slice W t e ty (.int κ 0) ht hz rfl rfl B o n cp hn (fun j hj => by rw [ag_cell h _ (by omega)]; rfl) (fun j hj => (block_facts h).2.1 _)⟩
set_option maxHeartbeats 4000000 in
set_option maxRecDepth 100000 in
theorem without_any (st : Nat → Int) (s : Int) (c : Nat) (hs : 0 ≤ s ∧ s ≤ 2) (hc : 1 ≤ c ∧ c ≤ 2) (w : World) :
    Calls Tryd.prog 93 #[.agg (ag kS 142 st), .agg #[.int .i64 s, .int .i64 c]] w fun e w' => e = .returned (.agg (ag kS 142 (wo (nOf s) (nbOf s) c st))) ∧ Below w.heap.size w w' := by
  have hN := Lib.hid (fun w => modeN26 s c hs (by omega) w)
  have hBn := Lib.hid (fun w => bands26 s c hs (by omega) w)
  obtain ⟨n, hn⟩ : ∃ n, nOf s = n := ⟨_, rfl⟩
  obtain ⟨nb, hnb⟩ : ∃ nb, nbOf s = nb := ⟨_, rfl⟩
  rw [hn] at hN
  rw [hnb] at hBn
  have hn32 : 8 ≤ n ∧ n ≤ 32 := by have := nOf_len s; rw [hn] at this; unfold Len at this; omega
  have hnb5 : 3 ≤ nb ∧ nb ≤ 5 := by unfold nbOf at hnb; omega
  have Hn := Lib.hid hn
  have Hnb := Lib.hid hnb
  rw [hn, hnb]
  clear hn hnb
  go_enter Tryd.func93, Tryd.ntmps93
  go_upto_region 1 with fail
  refine cut_world (fun V => LS w w.heap.size st s c V) ⟨by (repeat' (first | (with_reducible exact Below.refl _ _) | (with_reducible assumption) | (with_reducible refine Below.alloc ?_ ?_ _) | (with_reducible refine below_grew ?_ ?_ _) | (with_reducible refine Below.setCell ?_ ?_ _) | (with_reducible refine Below.drew ?_) | (with_reducible refine below_drewN ?_ _) | omega | (simp; done) | (simp; omega))), by simp, alloc_three _ _ _ _, alloc_second _ _ _ _, alloc_third _ _ _ _⟩ ?_
  intro V hV
  generalize hBd : w.heap.size = B at *
  have HBd := Lib.hid hBd
  have HV := Lib.hid hV
  have m1 := hV.m1
  clear hBd hV
  go_wp2_with fail
  go_loopw [8] (fun cnt wr => ∃ k : Nat, k ≤ c ∧ cnt = .int .i64 k ∧ LS w B (wk n nb k st) s c wr) (fun cnt _ => c - (intOf cnt).toNat)
  case atStart => exact ⟨0, by omega, rfl, HV.out.ext (wk_zero n nb st)⟩
  case round =>
    obtain ⟨k, hk, rfl, hLS⟩ := hrel
    have HLS := Lib.hid hLS
    have hws := hLS.size
    clear hLS m1
    by_cases hlt : k < c
    · have hlt' : (k : Int) < c := by omega
      have hk0 : (0 : Int) ≤ k := by omega
      have hk2 : (k : Int) < 2 := by omega
      have n0 : (0 : Int) ≤ n := by omega
      have n32 : (n : Int) ≤ 32 := by omega
      have b0 : (0 : Int) ≤ nb := by omega
      have b5 : (nb : Int) ≤ 5 := by omega
      have hwB : B + 1 < wr.heap.size := by omega
      have m0 := HLS.out.m0
      have m1 := HLS.out.m1
      go_wp2_with fail
      refine wp_region_inv [] (fun W => Below wr.heap.size wr W) (fun W W' => Below W.heap.size W W') 6 (by kernel_rfl) (by kernel_rfl) (by kernel_rfl) ((Below.refl _ _).drew) (fun W W' h h' => h.trans (h'.mono h.size)) (fun _ _ h => h.size) ?_
      simp only [List.take_succ_cons, List.take_zero, List.drop_succ_cons, List.drop_zero]
      refine wpInv_det (by kernel_rfl) (by kernel_rfl) ?_
      apply Exists.intro
      refine ⟨?_, ?_, ?_⟩
      · intro U W hC hH
        have hc1 := (bcell hC).1
        have hf1 := (bcell hC).2
        simp only [HypsU, predsOf, Region.binds, List.filterMap_cons, List.filterMap_nil, if_true, List.nil_append, List.cons_append, List.getD_cons_zero, List.getD_cons_succ] at hH
        simp only [fillPuts, Act.put, List.setIfInBounds_toArray, List.set_cons_zero, List.set_cons_succ, Nat.reduceAdd]
        go_wp2_with fail
        refine ⟨rfl, rfl, by (repeat' (first | (with_reducible exact Below.refl _ _) | (with_reducible assumption) | (with_reducible refine Below.alloc ?_ ?_ _) | (with_reducible refine below_grew ?_ ?_ _) | (with_reducible refine Below.setCell ?_ ?_ _) | (with_reducible refine Below.drew ?_) | (with_reducible refine below_drewN ?_ _) | omega | (simp; done) | (simp; omega))), ?_⟩
        conv => lhs; whnf
        try rfl
      · exact fun _ => rfl
      simp only [List.nil_append, List.cons_append, Nat.reduceAdd]
      refine wpInv_det (by kernel_rfl) (by kernel_rfl) ?_
      apply Exists.intro
      refine ⟨?_, ?_, ?_⟩
      · intro U W hC hH
        have hc1 := (bcell hC).1
        have hf1 := (bcell hC).2
        simp only [HypsU, predsOf, Region.binds, List.filterMap_cons, List.filterMap_nil, if_true, List.nil_append, List.cons_append, List.getD_cons_zero, List.getD_cons_succ] at hH
        simp only [fillPuts, Act.put, List.setIfInBounds_toArray, List.set_cons_zero, List.set_cons_succ, Nat.reduceAdd]
        go_wp2_with fail
        refine ⟨rfl, rfl, by (repeat' (first | (with_reducible exact Below.refl _ _) | (with_reducible assumption) | (with_reducible refine Below.alloc ?_ ?_ _) | (with_reducible refine below_grew ?_ ?_ _) | (with_reducible refine Below.setCell ?_ ?_ _) | (with_reducible refine Below.drew ?_) | (with_reducible refine below_drewN ?_ _) | omega | (simp; done) | (simp; omega))), ?_⟩
        conv => lhs; whnf
        try rfl
      · exact fun _ => rfl
      simp only [List.nil_append, List.cons_append, Nat.reduceAdd]
      refine wpInv_det (by kernel_rfl) (by kernel_rfl) ?_
      apply Exists.intro
      refine ⟨?_, ?_, ?_⟩
      · intro U W hC hH
        have hc1 := (bcell hC).1
        have hf1 := (bcell hC).2
        simp only [HypsU, predsOf, Region.binds, List.filterMap_cons, List.filterMap_nil, if_true, List.nil_append, List.cons_append, List.getD_cons_zero, List.getD_cons_succ] at hH
        simp only [fillPuts, Act.put, List.setIfInBounds_toArray, List.set_cons_zero, List.set_cons_succ, Nat.reduceAdd]
        go_wp2_with fail
        refine ⟨rfl, rfl, by (repeat' (first | (with_reducible exact Below.refl _ _) | (with_reducible assumption) | (with_reducible refine Below.alloc ?_ ?_ _) | (with_reducible refine below_grew ?_ ?_ _) | (with_reducible refine Below.setCell ?_ ?_ _) | (with_reducible refine Below.drew ?_) | (with_reducible refine below_drewN ?_ _) | omega | (simp; done) | (simp; omega))), ?_⟩
        conv => lhs; whnf
        try rfl
      · exact fun _ => rfl
      simp only [List.nil_append, List.cons_append, Nat.reduceAdd]
      refine wpInv_det (by kernel_rfl) (by kernel_rfl) ?_
      apply Exists.intro
      refine ⟨?_, ?_, ?_⟩
      · intro U W hC hH
        have hc1 := (bcell hC).1
        have hf1 := (bcell hC).2
        simp only [HypsU, predsOf, Region.binds, List.filterMap_cons, List.filterMap_nil, if_true, List.nil_append, List.cons_append, List.getD_cons_zero, List.getD_cons_succ] at hH
        simp only [fillPuts, Act.put, List.setIfInBounds_toArray, List.set_cons_zero, List.set_cons_succ, Nat.reduceAdd]
        go_wp2_with fail
        refine ⟨rfl, rfl, by (repeat' (first | (with_reducible exact Below.refl _ _) | (with_reducible assumption) | (with_reducible refine Below.alloc ?_ ?_ _) | (with_reducible refine below_grew ?_ ?_ _) | (with_reducible refine Below.setCell ?_ ?_ _) | (with_reducible refine Below.drew ?_) | (with_reducible refine below_drewN ?_ _) | omega | (simp; done) | (simp; omega))), ?_⟩
        conv => lhs; whnf
        try rfl
      · exact fun _ => rfl
      simp only [List.nil_append, List.cons_append, Nat.reduceAdd]
      refine wpInv_det (by kernel_rfl) (by kernel_rfl) ?_
      apply Exists.intro
      refine ⟨?_, ?_, ?_⟩
      · intro U W hC hH
        have hc1 := (bcell hC).1
        have hf1 := (bcell hC).2
        simp only [HypsU, predsOf, Region.binds, List.filterMap_cons, List.filterMap_nil, if_true, List.nil_append, List.cons_append, List.getD_cons_zero, List.getD_cons_succ] at hH
        simp only [fillPuts, Act.put, List.setIfInBounds_toArray, List.set_cons_zero, List.set_cons_succ, Nat.reduceAdd]
        go_wp2_with fail; refine (hBn.out _).mono ?_; rintro e w' ⟨rfl, hb1⟩; obtain ⟨x1, rfl⟩ := below_as_grew hb1; clear hb1; go_wp2_with fail
        refine ⟨rfl, rfl, by (repeat' (first | (with_reducible exact Below.refl _ _) | (with_reducible assumption) | (with_reducible refine Below.alloc ?_ ?_ _) | (with_reducible refine below_grew ?_ ?_ _) | (with_reducible refine Below.setCell ?_ ?_ _) | (with_reducible refine Below.drew ?_) | (with_reducible refine below_drewN ?_ _) | omega | (simp; done) | (simp; omega))), ?_⟩
        conv => lhs; whnf
        try rfl
      · exact fun _ => rfl
      simp only [List.nil_append, List.cons_append, Nat.reduceAdd]
      refine wpInv_det (by kernel_rfl) (by kernel_rfl) ?_
      apply Exists.intro
      refine ⟨?_, ?_, ?_⟩
      · intro U W hC hH
        have hc1 := (bcell hC).1
        have hf1 := (bcell hC).2
        simp only [HypsU, predsOf, Region.binds, List.filterMap_cons, List.filterMap_nil, if_true, List.nil_append, List.cons_append, List.getD_cons_zero, List.getD_cons_succ] at hH
        simp only [fillPuts, Act.put, List.setIfInBounds_toArray, List.set_cons_zero, List.set_cons_succ, Nat.reduceAdd]
        go_wp2_with fail
        refine ⟨rfl, rfl, by (repeat' (first | (with_reducible exact Below.refl _ _) | (with_reducible assumption) | (with_reducible refine Below.alloc ?_ ?_ _) | (with_reducible refine below_grew ?_ ?_ _) | (with_reducible refine Below.setCell ?_ ?_ _) | (with_reducible refine Below.drew ?_) | (with_reducible refine below_drewN ?_ _) | omega | (simp; done) | (simp; omega))), ?_⟩
        conv => lhs; whnf
        try rfl
      · exact fun _ => rfl
      simp only [List.nil_append, List.cons_append, Nat.reduceAdd]
      simp only [List.nil_append, List.cons_append, Nat.reduceAdd, fillPuts, Act.put, List.setIfInBounds_toArray, List.set_cons_zero, List.set_cons_succ]
      rintro U W hC ⟨h0, h1, h2, h3, h4, h5, -⟩ -
      simp only [h0, h1, h2, h3, h4, h5]
      clear h0 h1 h2 h3 h4 h5 m0 m1
      have hls := HLS.out.keep hC
      clear hC
      obtain ⟨W1, ho, hb, hcl⟩ := clear_bx (P := Tryd.prog) (o := k * 5) (n := nb) (cp := 5) hls.st .i64 28 3 Tryd.underlying28 zeroI64 (by omega) (by omega) (fun j h1 h2 => kS_E j (by omega))
      have hls1 := hls.only ho hb
      clear ho hb hls
      have HLS1 := Lib.hid hls1
      have m0 := hls1.m0
      have m1 := hls1.m1
      have hw1 : B + 1 < W1.heap.size := by have := hls1.size; omega
      clear hls1
      go_wp2_with (simp only [hcl])
      refine wp_region_inv [] (fun W => Below W1.heap.size W1 W) (fun W W' => Below W.heap.size W W') 6 (by kernel_rfl) (by kernel_rfl) (by kernel_rfl) ((Below.refl _ _).drew) (fun W W' h h' => h.trans (h'.mono h.size)) (fun _ _ h => h.size) ?_
      simp only [List.take_succ_cons, List.take_zero, List.drop_succ_cons, List.drop_zero]
      refine wpInv_det (by kernel_rfl) (by kernel_rfl) ?_
      apply Exists.intro
      refine ⟨?_, ?_, ?_⟩
      · intro U W hC hH
        have hc1 := (bcell hC).1
        have hf1 := (bcell hC).2
        simp only [HypsU, predsOf, Region.binds, List.filterMap_cons, List.filterMap_nil, if_true, List.nil_append, List.cons_append, List.getD_cons_zero, List.getD_cons_succ] at hH
        simp only [fillPuts, Act.put, List.setIfInBounds_toArray, List.set_cons_zero, List.set_cons_succ, Nat.reduceAdd]
        go_wp2_with fail
        refine ⟨rfl, rfl, by (repeat' (first | (with_reducible exact Below.refl _ _) | (with_reducible assumption) | (with_reducible refine Below.alloc ?_ ?_ _) | (with_reducible refine below_grew ?_ ?_ _) | (with_reducible refine Below.setCell ?_ ?_ _) | (with_reducible refine Below.drew ?_) | (with_reducible refine below_drewN ?_ _) | omega | (simp; done) | (simp; omega))), ?_⟩
        conv => lhs; whnf
        try rfl
      · exact fun _ => rfl
      simp only [List.nil_append, List.cons_append, Nat.reduceAdd]
      refine wpInv_det (by kernel_rfl) (by kernel_rfl) ?_
      apply Exists.intro
      refine ⟨?_, ?_, ?_⟩
      · intro U W hC hH
        have hc1 := (bcell hC).1
        have hf1 := (bcell hC).2
        simp only [HypsU, predsOf, Region.binds, List.filterMap_cons, List.filterMap_nil, if_true, List.nil_append, List.cons_append, List.getD_cons_zero, List.getD_cons_succ] at hH
        simp only [fillPuts, Act.put, List.setIfInBounds_toArray, List.set_cons_zero, List.set_cons_succ, Nat.reduceAdd]
        go_wp2_with fail
        refine ⟨rfl, rfl, by (repeat' (first | (with_reducible exact Below.refl _ _) | (with_reducible assumption) | (with_reducible refine Below.alloc ?_ ?_ _) | (with_reducible refine below_grew ?_ ?_ _) | (with_reducible refine Below.setCell ?_ ?_ _) | (with_reducible refine Below.drew ?_) | (with_reducible refine below_drewN ?_ _) | omega | (simp; done) | (simp; omega))), ?_⟩
        conv => lhs; whnf
        try rfl
      · exact fun _ => rfl
      simp only [List.nil_append, List.cons_append, Nat.reduceAdd]
      refine wpInv_det (by kernel_rfl) (by kernel_rfl) ?_
      apply Exists.intro
      refine ⟨?_, ?_, ?_⟩
      · intro U W hC hH
        have hc1 := (bcell hC).1
        have hf1 := (bcell hC).2
        simp only [HypsU, predsOf, Region.binds, List.filterMap_cons, List.filterMap_nil, if_true, List.nil_append, List.cons_append, List.getD_cons_zero, List.getD_cons_succ] at hH
        simp only [fillPuts, Act.put, List.setIfInBounds_toArray, List.set_cons_zero, List.set_cons_succ, Nat.reduceAdd]
        go_wp2_with fail
        refine ⟨rfl, rfl, by (repeat' (first | (with_reducible exact Below.refl _ _) | (with_reducible assumption) | (with_reducible refine Below.alloc ?_ ?_ _) | (with_reducible refine below_grew ?_ ?_ _) | (with_reducible refine Below.setCell ?_ ?_ _) | (with_reducible refine Below.drew ?_) | (with_reducible refine below_drewN ?_ _) | omega | (simp; done) | (simp; omega))), ?_⟩
        conv => lhs; whnf
        try rfl
      · exact fun _ => rfl
      simp only [List.nil_append, List.cons_append, Nat.reduceAdd]
      refine wpInv_det (by kernel_rfl) (by kernel_rfl) ?_
      apply Exists.intro
      refine ⟨?_, ?_, ?_⟩
      · intro U W hC hH
        have hc1 := (bcell hC).1
        have hf1 := (bcell hC).2
        simp only [HypsU, predsOf, Region.binds, List.filterMap_cons, List.filterMap_nil, if_true, List.nil_append, List.cons_append, List.getD_cons_zero, List.getD_cons_succ] at hH
        simp only [fillPuts, Act.put, List.setIfInBounds_toArray, List.set_cons_zero, List.set_cons_succ, Nat.reduceAdd]
        go_wp2_with fail
        refine ⟨rfl, rfl, by (repeat' (first | (with_reducible exact Below.refl _ _) | (with_reducible assumption) | (with_reducible refine Below.alloc ?_ ?_ _) | (with_reducible refine below_grew ?_ ?_ _) | (with_reducible refine Below.setCell ?_ ?_ _) | (with_reducible refine Below.drew ?_) | (with_reducible refine below_drewN ?_ _) | omega | (simp; done) | (simp; omega))), ?_⟩
        conv => lhs; whnf
        try rfl
      · exact fun _ => rfl
      simp only [List.nil_append, List.cons_append, Nat.reduceAdd]
      refine wpInv_det (by kernel_rfl) (by kernel_rfl) ?_
      apply Exists.intro
      refine ⟨?_, ?_, ?_⟩
      · intro U W hC hH
        have hc1 := (bcell hC).1
        have hf1 := (bcell hC).2
        simp only [HypsU, predsOf, Region.binds, List.filterMap_cons, List.filterMap_nil, if_true, List.nil_append, List.cons_append, List.getD_cons_zero, List.getD_cons_succ] at hH
        simp only [fillPuts, Act.put, List.setIfInBounds_toArray, List.set_cons_zero, List.set_cons_succ, Nat.reduceAdd]
        go_wp2_with fail; refine (hN.out _).mono ?_; rintro e w' ⟨rfl, hb1⟩; obtain ⟨x1, rfl⟩ := below_as_grew hb1; clear hb1; go_wp2_with fail
        refine ⟨rfl, rfl, by (repeat' (first | (with_reducible exact Below.refl _ _) | (with_reducible assumption) | (with_reducible refine Below.alloc ?_ ?_ _) | (with_reducible refine below_grew ?_ ?_ _) | (with_reducible refine Below.setCell ?_ ?_ _) | (with_reducible refine Below.drew ?_) | (with_reducible refine below_drewN ?_ _) | omega | (simp; done) | (simp; omega))), ?_⟩
        conv => lhs; whnf
        try rfl
      · exact fun _ => rfl
      simp only [List.nil_append, List.cons_append, Nat.reduceAdd]
      refine wpInv_det (by kernel_rfl) (by kernel_rfl) ?_
      apply Exists.intro
      refine ⟨?_, ?_, ?_⟩
      · intro U W hC hH
        have hc1 := (bcell hC).1
        have hf1 := (bcell hC).2
        simp only [HypsU, predsOf, Region.binds, List.filterMap_cons, List.filterMap_nil, if_true, List.nil_append, List.cons_append, List.getD_cons_zero, List.getD_cons_succ] at hH
        simp only [fillPuts, Act.put, List.setIfInBounds_toArray, List.set_cons_zero, List.set_cons_succ, Nat.reduceAdd]
        go_wp2_with fail
        refine ⟨rfl, rfl, by (repeat' (first | (with_reducible exact Below.refl _ _) | (with_reducible assumption) | (with_reducible refine Below.alloc ?_ ?_ _) | (with_reducible refine below_grew ?_ ?_ _) | (with_reducible refine Below.setCell ?_ ?_ _) | (with_reducible refine Below.drew ?_) | (with_reducible refine below_drewN ?_ _) | omega | (simp; done) | (simp; omega))), ?_⟩
        conv => lhs; whnf
        try rfl
      · exact fun _ => rfl
      simp only [List.nil_append, List.cons_append, Nat.reduceAdd]
      simp only [List.nil_append, List.cons_append, Nat.reduceAdd, fillPuts, Act.put, List.setIfInBounds_toArray, List.set_cons_zero, List.set_cons_succ]
      rintro U W hC ⟨h0, h1, h2, h3, h4, h5, -⟩ -
      simp only [h0, h1, h2, h3, h4, h5]
      clear h0 h1 h2 h3 h4 h5 m0 m1
      have hls := HLS1.out.keep hC
      clear hC
      obtain ⟨W2, ho, hb, hcl2⟩ := clear_bx (P := Tryd.prog) (o := 10 + k * 32) (n := n) (cp := 32) hls.st .i32 43 21 Tryd.underlying43 zeroI32 (by omega) (by omega) (fun j h1 h2 => kS_I j (by omega) (by omega))
      have hls2 := hls.only ho hb
      clear ho hb hls
      have HLS2 := Lib.hid hls2
      have m0 := hls2.m0
      have m1 := hls2.m1
      have hw2 : B + 1 < W2.heap.size := by have := hls2.size; omega
      skip
      clear hls2
      go_wp2_with (simp only [hcl2])
      refine wp_region_inv [] (fun W => Below W2.heap.size W2 W) (fun W W' => Below W.heap.size W W') 6 (by kernel_rfl) (by kernel_rfl) (by kernel_rfl) ((Below.refl _ _).drew) (fun W W' h h' => h.trans (h'.mono h.size)) (fun _ _ h => h.size) ?_
      simp only [List.take_succ_cons, List.take_zero, List.drop_succ_cons, List.drop_zero]
      refine wpInv_det (by kernel_rfl) (by kernel_rfl) ?_
      apply Exists.intro
      refine ⟨?_, ?_, ?_⟩
      · intro U W hC hH
        have hc1 := (bcell hC).1
        have hf1 := (bcell hC).2
        simp only [HypsU, predsOf, Region.binds, List.filterMap_cons, List.filterMap_nil, if_true, List.nil_append, List.cons_append, List.getD_cons_zero, List.getD_cons_succ] at hH
        simp only [fillPuts, Act.put, List.setIfInBounds_toArray, List.set_cons_zero, List.set_cons_succ, Nat.reduceAdd]
        go_wp2_with fail
        refine ⟨rfl, rfl, by (repeat' (first | (with_reducible exact Below.refl _ _) | (with_reducible assumption) | (with_reducible refine Below.alloc ?_ ?_ _) | (with_reducible refine below_grew ?_ ?_ _) | (with_reducible refine Below.setCell ?_ ?_ _) | (with_reducible refine Below.drew ?_) | (with_reducible refine below_drewN ?_ _) | omega | (simp; done) | (simp; omega))), ?_⟩
        conv => lhs; whnf
        try rfl
      · exact fun _ => rfl
      simp only [List.nil_append, List.cons_append, Nat.reduceAdd]
      refine wpInv_det (by kernel_rfl) (by kernel_rfl) ?_
      apply Exists.intro
      refine ⟨?_, ?_, ?_⟩
      · intro U W hC hH
        have hc1 := (bcell hC).1
        have hf1 := (bcell hC).2
        simp only [HypsU, predsOf, Region.binds, List.filterMap_cons, List.filterMap_nil, if_true, List.nil_append, List.cons_append, List.getD_cons_zero, List.getD_cons_succ] at hH
        simp only [fillPuts, Act.put, List.setIfInBounds_toArray, List.set_cons_zero, List.set_cons_succ, Nat.reduceAdd]
        go_wp2_with fail
        refine ⟨rfl, rfl, by (repeat' (first | (with_reducible exact Below.refl _ _) | (with_reducible assumption) | (with_reducible refine Below.alloc ?_ ?_ _) | (with_reducible refine below_grew ?_ ?_ _) | (with_reducible refine Below.setCell ?_ ?_ _) | (with_reducible refine Below.drew ?_) | (with_reducible refine below_drewN ?_ _) | omega | (simp; done) | (simp; omega))), ?_⟩
        conv => lhs; whnf
        try rfl
      · exact fun _ => rfl
      simp only [List.nil_append, List.cons_append, Nat.reduceAdd]
      refine wpInv_det (by kernel_rfl) (by kernel_rfl) ?_
      apply Exists.intro
      refine ⟨?_, ?_, ?_⟩
      · intro U W hC hH
        have hc1 := (bcell hC).1
        have hf1 := (bcell hC).2
        simp only [HypsU, predsOf, Region.binds, List.filterMap_cons, List.filterMap_nil, if_true, List.nil_append, List.cons_append, List.getD_cons_zero, List.getD_cons_succ] at hH
        simp only [fillPuts, Act.put, List.setIfInBounds_toArray, List.set_cons_zero, List.set_cons_succ, Nat.reduceAdd]
        go_wp2_with fail
        refine ⟨rfl, rfl, by (repeat' (first | (with_reducible exact Below.refl _ _) | (with_reducible assumption) | (with_reducible refine Below.alloc ?_ ?_ _) | (with_reducible refine below_grew ?_ ?_ _) | (with_reducible refine Below.setCell ?_ ?_ _) | (with_reducible refine Below.drew ?_) | (with_reducible refine below_drewN ?_ _) | omega | (simp; done) | (simp; omega))), ?_⟩
        conv => lhs; whnf
        try rfl
      · exact fun _ => rfl
      simp only [List.nil_append, List.cons_append, Nat.reduceAdd]
      refine wpInv_det (by kernel_rfl) (by kernel_rfl) ?_
      apply Exists.intro
      refine ⟨?_, ?_, ?_⟩
      · intro U W hC hH
        have hc1 := (bcell hC).1
        have hf1 := (bcell hC).2
        simp only [HypsU, predsOf, Region.binds, List.filterMap_cons, List.filterMap_nil, if_true, List.nil_append, List.cons_append, List.getD_cons_zero, List.getD_cons_succ] at hH
        simp only [fillPuts, Act.put, List.setIfInBounds_toArray, List.set_cons_zero, List.set_cons_succ, Nat.reduceAdd]
        go_wp2_with fail
        refine ⟨rfl, rfl, by (repeat' (first | (with_reducible exact Below.refl _ _) | (with_reducible assumption) | (with_reducible refine Below.alloc ?_ ?_ _) | (with_reducible refine below_grew ?_ ?_ _) | (with_reducible refine Below.setCell ?_ ?_ _) | (with_reducible refine Below.drew ?_) | (with_reducible refine below_drewN ?_ _) | omega | (simp; done) | (simp; omega))), ?_⟩
        conv => lhs; whnf
        try rfl
      · exact fun _ => rfl
      simp only [List.nil_append, List.cons_append, Nat.reduceAdd]
      refine wpInv_det (by kernel_rfl) (by kernel_rfl) ?_
      apply Exists.intro
      refine ⟨?_, ?_, ?_⟩
      · intro U W hC hH
        have hc1 := (bcell hC).1
        have hf1 := (bcell hC).2
        simp only [HypsU, predsOf, Region.binds, List.filterMap_cons, List.filterMap_nil, if_true, List.nil_append, List.cons_append, List.getD_cons_zero, List.getD_cons_succ] at hH
        simp only [fillPuts, Act.put, List.setIfInBounds_toArray, List.set_cons_zero, List.set_cons_succ, Nat.reduceAdd]
        go_wp2_with fail; refine (hN.out _).mono ?_; rintro e w' ⟨rfl, hb1⟩; obtain ⟨x1, rfl⟩ := below_as_grew hb1; clear hb1; go_wp2_with fail
        refine ⟨rfl, rfl, by (repeat' (first | (with_reducible exact Below.refl _ _) | (with_reducible assumption) | (with_reducible refine Below.alloc ?_ ?_ _) | (with_reducible refine below_grew ?_ ?_ _) | (with_reducible refine Below.setCell ?_ ?_ _) | (with_reducible refine Below.drew ?_) | (with_reducible refine below_drewN ?_ _) | omega | (simp; done) | (simp; omega))), ?_⟩
        conv => lhs; whnf
        try rfl
      · exact fun _ => rfl
      simp only [List.nil_append, List.cons_append, Nat.reduceAdd]
      refine wpInv_det (by kernel_rfl) (by kernel_rfl) ?_
      apply Exists.intro
      refine ⟨?_, ?_, ?_⟩
      · intro U W hC hH
        have hc1 := (bcell hC).1
        have hf1 := (bcell hC).2
        simp only [HypsU, predsOf, Region.binds, List.filterMap_cons, List.filterMap_nil, if_true, List.nil_append, List.cons_append, List.getD_cons_zero, List.getD_cons_succ] at hH
        simp only [fillPuts, Act.put, List.setIfInBounds_toArray, List.set_cons_zero, List.set_cons_succ, Nat.reduceAdd]
        go_wp2_with fail
        refine ⟨rfl, rfl, by (repeat' (first | (with_reducible exact Below.refl _ _) | (with_reducible assumption) | (with_reducible refine Below.alloc ?_ ?_ _) | (with_reducible refine below_grew ?_ ?_ _) | (with_reducible refine Below.setCell ?_ ?_ _) | (with_reducible refine Below.drew ?_) | (with_reducible refine below_drewN ?_ _) | omega | (simp; done) | (simp; omega))), ?_⟩
        conv => lhs; whnf
        try rfl
      · exact fun _ => rfl
      simp only [List.nil_append, List.cons_append, Nat.reduceAdd]
      simp only [List.nil_append, List.cons_append, Nat.reduceAdd, fillPuts, Act.put, List.setIfInBounds_toArray, List.set_cons_zero, List.set_cons_succ]
      rintro U W hC ⟨h0, h1, h2, h3, h4, h5, -⟩ -
      simp only [h0, h1, h2, h3, h4, h5]
      clear h0 h1 h2 h3 h4 h5 m0 m1
      have hls := HLS2.out.keep hC
      clear hC
      obtain ⟨W3, ho, hb, hcl3⟩ := clear_bx (P := Tryd.prog) (o := 74 + k * 32) (n := n) (cp := 32) hls.st .i32 43 21 Tryd.underlying43 zeroI32 (by omega) (by omega) (fun j h1 h2 => kS_I j (by omega) (by omega))
      have hls3 := hls.only ho hb
      clear ho hb hls
      have HLS3 := Lib.hid hls3
      have m0 := hls3.m0
      have m1 := hls3.m1
      have hw3 : B + 1 < W3.heap.size := by have := hls3.size; omega
      have d1 := ag_cell hls3.st (138 + k) (by omega); have d2 := (block_facts hls3.st).2.1 (138 + k); rw [kS_I _ (by omega) (by omega)] at d1
      clear hls3
      go_wp2_with (simp only [hcl3])
      go_roundw
      case rel =>
        have ho := only_setCell W3 ⟨B, 138 + k, none⟩ (.int .i32 0)
        have hbx := ag_store HLS3.out.st (138 + k) (by omega) 0
        rw [kS_I _ (by omega) (by omega)] at hbx
        exact ⟨k + 1, by omega, rfl, (HLS3.out.only ho hbx).ext (fun j hj => wk_step n nb k st (by omega) (by omega) (by omega) j)⟩
      case measure => simp [intOf]; omega
    · have hlt' : ¬ (k : Int) < c := by omega
      obtain rfl : k = c := by omega
      have d1 := ag_cell HLS.out.st 140 (by omega)
      have d2 := ag_cell HLS.out.st 141 (by omega)
      have d3 := (block_facts HLS.out.st).2.1 140
      have d4 := (block_facts HLS.out.st).2.1 141
      rw [show kS 140 = .u32 from rfl] at d1
      rw [show kS 141 = .i64 from rfl] at d2
      have ho := (only_setCell wr ⟨B, 140, none⟩ (.int .u32 0)).setCell (.int .i64 0) (p := ⟨B, 141, none⟩)
      have hbx := ag_store (ag_store HLS.out.st 140 (by omega) 0) 141 (by omega) 0
      have hls := (HLS.out.only ho hbx).ext (f' := wo n nb k st) (fun j hj => by unfold updI wk wo; (repeat' split) <;> first | rfl | omega)
      go_upto_region 10 with fail
      refine cut_world (fun W => LS w B (wo n nb k st) s k W) hls ?_
      clear d1 d2 d3 d4 ho hbx hls
      intro W hW
      have HW := Lib.hid hW
      clear hW
      go_wp2_with (first | (refine wpList_load_row rfl St _ rfl B rfl _ (ag kS 142 (wo n nb k st)) (0, 0) _ HW.out.st Tryd.underlying97 rfl ?hin ?_; (case hin => exact infoS_ag _)) | (refine wpList_store_mid rfl St _ _ rfl (B + 1 + 1) 0 (ag kS 142 (wo n nb k st)) rfl rfl ?hth ?hin ?hon ?_; (case hth => exact there_row HW.out.rz _ (zeroS_le _)); (case hin => exact infoS_ag _); (case hon => exact ag_one kS 142 _)))
      have q1 := cells_all HW.out.rz (N := 142) zeroS_size (cs := ag kS 142 (wo n nb k st)) (ag_size _ _ _)
      have hfin : Below w.heap.size w (W.setCells (B + 1 + 1) 0 (ag kS 142 (wo n nb k st)).toList) := (only_setCells _ _ _ _).below (HW.out.below' (Nat.le_of_eq HBd.out)) (by rw [HBd.out]; omega)
      refine bodyPost_ret (v := .agg (ag kS 142 (wo n nb k st))) ?_ rfl ⟨by rfl, ?_⟩
      · exact results_cell_row rfl _ _ (B + 1 + 1) _ _ _ _ rfl q1 Tryd.underlying97 rfl (infoS_ag _)
      · rw [HBd.out] at hfin ⊢; exact hfin
end Go.Proofs.YtcibajleknhklaaDoor
end

section
namespace Go
open Go.RowKit
theorem run_index_one {P : Program} (t e : TypeId) (n : Nat) (cs : Array Value) (k : Nat) (x : Value) (d : TypeDesc) (h : P.underlying t = some (.array n e)) (he : P.underlying e = some d) (hd : (∀ fs, d ≠ .struct fs) ∧ (∀ m f, d ≠ .array m f)) (hi : (P.info? e).map (·.size) = some 1) (hk : k < n) (hx : cs[k]? = some x) (w : World) :
    (Instr.index t (.agg cs) (.int .i64 k)).run P w = .ok x w := by
  have hagg : (isAgg e).run P w = .ok false w := by
    unfold isAgg
    rw [Sem.run_bind, run_underlying he w]
    cases d <;> simp_all
  cases hq : P.info? e with
  | none => simp [hq] at hi
  | some i =>
    have hs : i.size = 1 := by simpa [hq] using hi
    unfold Instr.index
    simp [Sem.run_bind, asIntOf, run_underlying h, hagg, sizeOf, typeInfo, hq, hs, part, hx, go_sem]
    omega
end Go
end

section
namespace Go.Proofs.YtcibajleknhklaaDoor
open Go.RowKit Go.BigFrame Go.Proofs.YtcibajleknhklaaDoorW.PrintWords Go.Proofs.YtcibajleknhklaaDoorW.PrintLast Go.Proofs.YtcibajleknhklaaDoorW.PrintMore
open PStateTells RStateTells
set_option linter.unusedSimpArgs false
set_option linter.unusedVariables false
theorem cellsEq_ag2 (k : Nat → IntKind) (f g : Nat → Int) : ∀ l : List Nat, cellsEq (l.map fun i => Value.int (k i) (f i)) (l.map fun i => Value.int (k i) (g i)) = l.all fun i => f i == g i
  | [] => rfl
  | i :: l => by
    simp only [List.map_cons, cellsEq, cellEq, cellsEq_ag2 k f g l, List.all_cons]
def eqB (f g : Nat → Int) : Bool := (List.range 142).all fun i => f i == g i
theorem eqB_iff (f g : Nat → Int) : eqB f g = true ↔ ∀ j, j < 142 → f j = g j := by
  unfold eqB
  rw [List.all_eq_true]
  simp
theorem layoutS : layout Tryd.prog 4 St = some ((List.range 142).map fun i => Leaf.int (kS i)) := by kernel_rfl
theorem eq_stateS (f g : Nat → Int) (w : World) : (Op.equalIn 10000 St (.agg (ag kS 142 f)) (.agg (ag kS 142 g))).run Tryd.prog w = .ok (eqB f g) w := by
  have h := eq_flat (P := Tryd.prog) St 4 _ layoutS (by decide) (by kernel_rfl) ((List.range 142).map fun i => Value.int (kS i) (f i)) ((List.range 142).map fun i => Value.int (kS i) (g i)) (fitAll_ag _ _ _) (fitAll_ag _ _ _) w
  rw [cellsEq_ag2] at h
  exact h
theorem zeroS_eq : Tryd.zeroCells97 = ag kS 142 (fun _ => 0) := by kernel_rfl
theorem eq_stateZ (f : Nat → Int) (w : World) : (Op.equalIn 10000 St (.agg (ag kS 142 f)) (.agg Tryd.zeroCells97)).run Tryd.prog w = .ok (eqB f fun _ => 0) w := by
  rw [zeroS_eq]; exact eq_stateS f _ w
/-- A call's frame: the state, the mode. -/
structure L2 (w : World) (B : Nat) (f : Nat → Int) (s c : Int) (W : World) : Prop where
  below : Below B w W
  size : B + 1 < W.heap.size
  st : Bx B St kS 142 f W
  mo : W.heap[B + 1]? = some (.cells #[.int .i64 s, .int .i64 c] 60 (0, 0))
theorem L2.keep {w B f s c} {W W' : World} (h : L2 w B f s c W) (hb : Below W.heap.size W W') : L2 w B f s c W' := by
  have hs := h.size
  exact ⟨h.below.trans (hb.mono (by omega)), Nat.lt_of_lt_of_le hs hb.size, (hb.block _ (by omega)).trans h.st, (hb.block _ (by omega)).trans h.mo⟩
theorem L2.m0 {w B f s c} {W : World} (h : L2 w B f s c W) : W.cell? ⟨B + 1, 0, none⟩ = some (.int .i64 s) := (block_facts h.mo).1 0
theorem L2.m1 {w B f s c} {W : World} (h : L2 w B f s c W) : W.cell? ⟨B + 1, 1, none⟩ = some (.int .i64 c) := (block_facts h.mo).1 1
set_option maxHeartbeats 4000000 in
set_option maxRecDepth 100000 in
theorem right_no (st : Nat → Int) (s c : Int) (h : ¬ RightP s c) (w : World) :
    Calls Tryd.prog 55 #[.agg (ag kS 142 st), .agg #[.int .i64 s, .int .i64 c]] w fun e w' => e = .returned (.bool false) ∧ Below w.heap.size w w' := by
  have hRt := Lib.hid (fun w => modeRight s c w)
  rw [decide_eq_false h] at hRt
  clear h
  go_enter Tryd.func55, Tryd.ntmps55
  go_wp2_with (go_at_call 86; refine (hRt.out _).mono ?_; rintro e w' ⟨rfl, hb1⟩; obtain ⟨x1, rfl⟩ := below_as_grew hb1; clear hb1)
  go_ret
  exact ⟨rfl, by (repeat' (first | (with_reducible exact Below.refl _ _) | (with_reducible assumption) | (with_reducible refine Below.alloc ?_ ?_ _) | (with_reducible refine below_grew ?_ ?_ _) | (with_reducible refine Below.setCell ?_ ?_ _) | (with_reducible refine Below.drew ?_) | (with_reducible refine below_drewN ?_ _) | omega | (simp; done) | (simp; omega)))⟩
set_option maxHeartbeats 4000000 in
set_option maxRecDepth 100000 in
theorem right_yes (st : Nat → Int) (s : Int) (c : Nat) (hs : 0 ≤ s ∧ s ≤ 2) (hc : 1 ≤ c ∧ c ≤ 2) (w : World) (q : Bool) (hq : q = true ↔ StOk (nOf s) (nbOf s) c st) (h32 : ∀ j, 10 ≤ j → j < 140 → -2147483648 ≤ st j ∧ st j ≤ 2147483647) :
    Calls Tryd.prog 55 #[.agg (ag kS 142 st), .agg #[.int .i64 s, .int .i64 c]] w fun e w' => e = .returned (.bool q) ∧ Below w.heap.size w w' := by
  have hRt := Lib.hid (fun w => modeRight s c w)
  rw [decide_eq_true (show RightP s c from ⟨by omega, by omega, by omega, by omega⟩)] at hRt
  have hWo := Lib.hid (fun w => without_any st s c hs hc w)
  have hEq := Lib.hid (fun w => eq_stateZ (wo (nOf s) (nbOf s) c st) w)
  have HQ := Lib.hid hq
  have H32 := Lib.hid h32
  obtain ⟨z, hz⟩ : ∃ z, eqB (wo (nOf s) (nbOf s) c st) (fun _ => 0) = z := ⟨_, rfl⟩
  rw [hz] at hEq
  have HZ := Lib.hid hz
  have e141 : (ag kS 142 st)[141]? = some (.int .i64 (st 141)) := ag_get _ _ _ _ (by decide)
  clear hq hz h32
  go_enter Tryd.func55, Tryd.ntmps55
  go_upto_region 1 with fail
  refine cut_world (fun V => L2 w w.heap.size st s c V) ⟨by (repeat' (first | (with_reducible exact Below.refl _ _) | (with_reducible assumption) | (with_reducible refine Below.alloc ?_ ?_ _) | (with_reducible refine below_grew ?_ ?_ _) | (with_reducible refine Below.setCell ?_ ?_ _) | (with_reducible refine Below.drew ?_) | (with_reducible refine below_drewN ?_ _) | omega | (simp; done) | (simp; omega))), by simp, alloc_two _ _ _, alloc_secondOf _ _ _⟩ ?_
  intro V hV
  generalize hBd : w.heap.size = B at *
  have HBd := Lib.hid hBd
  have HV := Lib.hid hV
  have m0 := hV.m0
  have m1 := hV.m1
  have hVs := hV.size
  have hVs2 : B < V.heap.size := by omega
  have d1 := ag_cell hV.st 141 (by omega)
  rw [show kS 141 = .i64 from rfl] at d1
  generalize hlo : st 141 = lo at d1
  have HLO := Lib.hid hlo
  clear hBd hV e141 hlo
  cases z with
  | false =>
    have hE := hEq.out
    go_wp2_with (first | (refine load_row_g rfl St _ rfl B rfl _ (ag kS 142 st) (0, 0) _ ((World.grew_block V _ B hVs2).trans HV.out.st) Tryd.underlying97 rfl ?hin ?_; (case hin => exact infoS_ag _)) | (go_at_call 86; refine (hRt.out _).mono ?_; rintro e w' ⟨rfl, hb1⟩; obtain ⟨x1, rfl⟩ := below_as_grew hb1; clear hb1) | (go_at_call 93; refine (hWo.out _).mono ?_; rintro e w' ⟨rfl, hb1⟩; obtain ⟨x1, rfl⟩ := below_as_grew hb1; clear hb1))
    go_ret
    exact ⟨ret_bool (by
      have h1 := HZ.out
      cases q with
      | false => rfl
      | true =>
        have h2 := (eqB_iff _ _).2 (HQ.out.1 rfl).1
        rw [h1] at h2
        cases h2), by rw [HBd.out]; exact HV.out.below.trans (Below.mono (B := V.heap.size) (by (repeat' (first | (with_reducible exact Below.refl _ _) | (with_reducible assumption) | (with_reducible refine Below.alloc ?_ ?_ _) | (with_reducible refine below_grew ?_ ?_ _) | (with_reducible refine Below.setCell ?_ ?_ _) | (with_reducible refine Below.drew ?_) | (with_reducible refine below_drewN ?_ _) | omega | (simp; done) | (simp; omega)))) (by omega))⟩
  | true =>
    have HE := Lib.hid hEq.out
    by_cases hlo0 : lo < 0
    · have hE := hEq.out
      go_wp2_with (first | (refine load_row_g rfl St _ rfl B rfl _ (ag kS 142 st) (0, 0) _ ((World.grew_block V _ B hVs2).trans HV.out.st) Tryd.underlying97 rfl ?hin ?_; (case hin => exact infoS_ag _)) | (go_at_call 86; refine (hRt.out _).mono ?_; rintro e w' ⟨rfl, hb1⟩; obtain ⟨x1, rfl⟩ := below_as_grew hb1; clear hb1) | (go_at_call 93; refine (hWo.out _).mono ?_; rintro e w' ⟨rfl, hb1⟩; obtain ⟨x1, rfl⟩ := below_as_grew hb1; clear hb1))
      go_ret
      exact ⟨ret_bool (by
        cases q with
        | false => rfl
        | true => have h2 := (HQ.out.1 rfl).2.1; rw [HLO.out] at h2; omega), by rw [HBd.out]; exact HV.out.below.trans (Below.mono (B := V.heap.size) (by (repeat' (first | (with_reducible exact Below.refl _ _) | (with_reducible assumption) | (with_reducible refine Below.alloc ?_ ?_ _) | (with_reducible refine below_grew ?_ ?_ _) | (with_reducible refine Below.setCell ?_ ?_ _) | (with_reducible refine Below.drew ?_) | (with_reducible refine below_drewN ?_ _) | omega | (simp; done) | (simp; omega)))) (by omega))⟩
    · by_cases hlo1 : lo > 1000
      · have hE := hEq.out
        go_wp2_with (first | (refine load_row_g rfl St _ rfl B rfl _ (ag kS 142 st) (0, 0) _ ((World.grew_block V _ B hVs2).trans HV.out.st) Tryd.underlying97 rfl ?hin ?_; (case hin => exact infoS_ag _)) | (go_at_call 86; refine (hRt.out _).mono ?_; rintro e w' ⟨rfl, hb1⟩; obtain ⟨x1, rfl⟩ := below_as_grew hb1; clear hb1) | (go_at_call 93; refine (hWo.out _).mono ?_; rintro e w' ⟨rfl, hb1⟩; obtain ⟨x1, rfl⟩ := below_as_grew hb1; clear hb1))
        go_ret
        exact ⟨ret_bool (by
          cases q with
          | false => rfl
          | true => have h2 := (HQ.out.1 rfl).2.1; rw [HLO.out] at h2; omega), by rw [HBd.out]; exact HV.out.below.trans (Below.mono (B := V.heap.size) (by (repeat' (first | (with_reducible exact Below.refl _ _) | (with_reducible assumption) | (with_reducible refine Below.alloc ?_ ?_ _) | (with_reducible refine below_grew ?_ ?_ _) | (with_reducible refine Below.setCell ?_ ?_ _) | (with_reducible refine Below.drew ?_) | (with_reducible refine below_drewN ?_ _) | omega | (simp; done) | (simp; omega)))) (by omega))⟩
      · have hE := hEq.out
        go_upto_region 3 with (first | (refine load_row_g rfl St _ rfl B rfl _ (ag kS 142 st) (0, 0) _ ((World.grew_block V _ B hVs2).trans HV.out.st) Tryd.underlying97 rfl ?hin ?_; (case hin => exact infoS_ag _)) | (go_at_call 86; refine (hRt.out _).mono ?_; rintro e w' ⟨rfl, hb1⟩; obtain ⟨x1, rfl⟩ := below_as_grew hb1; clear hb1) | (go_at_call 93; refine (hWo.out _).mono ?_; rintro e w' ⟨rfl, hb1⟩; obtain ⟨x1, rfl⟩ := below_as_grew hb1; clear hb1))
        clear hE d1 m0 m1
        refine cut_world (fun W => L2 w B st s c W) (HV.out.keep (by (repeat' (first | (with_reducible exact Below.refl _ _) | (with_reducible assumption) | (with_reducible refine Below.alloc ?_ ?_ _) | (with_reducible refine below_grew ?_ ?_ _) | (with_reducible refine Below.setCell ?_ ?_ _) | (with_reducible refine Below.drew ?_) | (with_reducible refine below_drewN ?_ _) | omega | (simp; done) | (simp; omega))))) ?_
        intro W hW
        have HW := Lib.hid hW
        have m1 := hW.m1
        clear hW
        go_wp2_with fail
        go_loopw [32] (fun cnt wr => ∃ k : Nat, k ≤ c ∧ cnt = .int .i64 k ∧ L2 w B st s c wr ∧ ∀ ch, ch < k → ChOk st ch) (fun cnt _ => c - (intOf cnt).toNat)
        case atStart => exact ⟨0, by omega, rfl, HW.out, fun ch h => by omega⟩
        case round =>
          obtain ⟨k, hk, rfl, hL, hall⟩ := hrel
          have HL := Lib.hid hL
          have HALL := Lib.hid hall
          clear hL hall m1
          by_cases hlt : k < c
          · have hlt' : (k : Int) < c := by omega
            have hk0 : (0 : Int) ≤ k := by omega
            have hk2 : (k : Int) < 2 := by omega
            have hrE := Lib.hid (bx_rangeK HL.out.st .i64 (k * 5) 5 (by omega) (fun j h1 h2 => kS_E j (by omega)))
            have i5 := Lib.hid (show (Tryd.prog.info? 55).map (·.size) = some 5 from by kernel_rfl)
            go_wp2_with (refine load_mid_g rfl 55 _ rfl B (k * 5) rfl _ _ hrE.out Tryd.underlying55 rfl ?hi ?_; (case hi => rw [Array.length_toList, ag_size]; exact i5.out))
            go_loopw [39] (fun cnt wr => ∃ i : Nat, i ≤ 5 ∧ cnt = .int .i64 i ∧ L2 w B st s c wr ∧ ∀ b, b < i → okE (st (k * 5 + b))) (fun cnt _ => 5 - (intOf cnt).toNat)
            case atStart => exact ⟨0, by omega, rfl, HL.out, fun b h => by omega⟩
            case round =>
              obtain ⟨i, hi, rfl, hL, hE⟩ := hrel
              have HL2 := Lib.hid hL
              have HE2 := Lib.hid hE
              clear hL hE
              by_cases hlt2 : i < 5
              · have hlt2' : (i : Int) < 5 := by omega
                have hix := run_index_one (P := Tryd.prog) 55 3 5 (ag (fun _ => .i64) 5 (fun i => st (k * 5 + i))) i _ _ Tryd.underlying55 Tryd.underlying3 (by refine ⟨fun _ h => ?_, fun _ _ h => ?_⟩ <;> cases h) (by kernel_rfl) hlt2 (ag_get _ _ _ _ hlt2)
                generalize hy : st (k * 5 + i) = y at hix
                have HY := Lib.hid hy
                clear hy
                by_cases hy0 : y < 0
                · go_wp2_with fail
                  go_ret
                  exact ⟨ret_bool (by
                    cases q with
                    | false => rfl
                    | true => have h2 := ((HQ.out.1 rfl).2.2 k hlt).1 i hlt2; rw [HY.out] at h2; unfold okE at h2; omega), by rw [HBd.out]; exact HL2.out.below⟩
                · by_cases hy1 : y > 31
                  · go_wp2_with fail
                    go_ret
                    exact ⟨ret_bool (by
                      cases q with
                      | false => rfl
                      | true => have h2 := ((HQ.out.1 rfl).2.2 k hlt).1 i hlt2; rw [HY.out] at h2; unfold okE at h2; omega), by rw [HBd.out]; exact HL2.out.below⟩
                  · go_wp2_with fail
                    go_roundw
                    case rel =>
                      refine ⟨i + 1, by omega, rfl, HL2.out, fun b hb => ?_⟩
                      by_cases e : b = i
                      · rw [e, HY.out]; unfold okE; omega
                      · exact HE2.out b (by omega)
                    case measure => simp [intOf]; omega
              · have hlt2' : ¬ (i : Int) < 5 := by omega
                obtain rfl : i = 5 := by omega
                have hrH := Lib.hid (bx_rangeK HL2.out.st .i32 (74 + k * 32) 32 (by omega) (fun j h1 h2 => kS_I j (by omega) (by omega)))
                have i32 := Lib.hid (show (Tryd.prog.info? 42).map (·.size) = some 32 from by kernel_rfl)
                go_wp2_with (refine load_mid_g rfl 42 _ rfl B (74 + k * 32) rfl _ _ hrH.out Tryd.underlying42 rfl ?hi ?_; (case hi => rw [Array.length_toList, ag_size]; exact i32.out))
                go_loopw [53] (fun cnt wr => ∃ i : Nat, i ≤ 32 ∧ cnt = .int .i64 i ∧ L2 w B st s c wr ∧ ∀ b, b < i → sat24 (st (74 + k * 32 + b)) = st (74 + k * 32 + b)) (fun cnt _ => 32 - (intOf cnt).toNat)
                case atStart => exact ⟨0, by omega, rfl, HL2.out, fun b h => by omega⟩
                case round =>
                  obtain ⟨i, hi3, rfl, hL, hH⟩ := hrel
                  have HL3 := Lib.hid hL
                  have HH3 := Lib.hid hH
                  have hw3 := hL.size
                  clear hL hH
                  by_cases hlt3 : i < 32
                  · have hlt3' : (i : Int) < 32 := by omega
                    have hix := run_index_one (P := Tryd.prog) 42 21 32 (ag (fun _ => .i32) 32 (fun i => st (74 + k * 32 + i))) i _ _ Tryd.underlying42 Tryd.underlying21 (by refine ⟨fun _ h => ?_, fun _ _ h => ?_⟩ <;> cases h) (by kernel_rfl) hlt3 (ag_get _ _ _ _ hlt3)
                    obtain ⟨y1, y2⟩ := H32.out (74 + k * 32 + i) (by omega) (by omega)
                    generalize hy : st (74 + k * 32 + i) = y at hix y1 y2
                    have HY := Lib.hid hy
                    have hsat := Lib.hid (fun w => fixSat24 y w)
                    obtain ⟨u, hu⟩ : ∃ u, sat24 y = u := ⟨_, rfl⟩
                    rw [hu] at hsat
                    have HU := Lib.hid hu
                    clear hy hu
                    by_cases he : y = u
                    · have hb1 : (y == u) = true := by simpa using he
                      have hb2 : (y != u) = false := by simpa using he
                      have HEq2 := Lib.hid he
                      clear he
                      go_wp2_with (go_at_call 94; refine (hsat.out _).mono ?_; rintro e wf ⟨rfl, hbf⟩; have HBF := Lib.hid hbf; clear hbf)
                      go_roundw
                      case rel =>
                        refine ⟨i + 1, by omega, rfl, HL3.out.keep HBF.out, fun b hb => ?_⟩
                        by_cases e : b = i
                        · rw [e, HY.out, HU.out, HEq2.out]
                        · exact HH3.out b (by omega)
                      case measure => simp [intOf]; omega
                    · have hb1 : (y == u) = false := by simpa using he
                      have hb2 : (y != u) = true := by simpa using he
                      have HEq2 := Lib.hid he
                      clear he
                      go_wp2_with (go_at_call 94; refine (hsat.out _).mono ?_; rintro e wf ⟨rfl, hbf⟩; have HBF := Lib.hid hbf; clear hbf)
                      go_ret
                      exact ⟨ret_bool (by
                        cases q with
                        | false => rfl
                        | true => have h2 := ((HQ.out.1 rfl).2.2 k hlt).2.1 i hlt3; rw [HY.out, HU.out] at h2; exact absurd h2.symm HEq2.out), by rw [HBd.out]; exact (HL3.out.keep HBF.out).below⟩
                  · have hlt3' : ¬ (i : Int) < 32 := by omega
                    obtain rfl : i = 32 := by omega
                    have r0 := ag_cell HL3.out.st (138 + k) (by omega)
                    rw [kS_I _ (by omega) (by omega)] at r0
                    have hwB : B < wr.heap.size := by omega
                    obtain ⟨y1, y2⟩ := H32.out (138 + k) (by omega) (by omega)
                    generalize hy : st (138 + k) = y at r0 y1 y2
                    have HY := Lib.hid hy
                    have hsat := Lib.hid (fun w => fixSat28 y w)
                    obtain ⟨u, hu⟩ : ∃ u, sat28 y = u := ⟨_, rfl⟩
                    rw [hu] at hsat
                    have HU := Lib.hid hu
                    clear hy hu
                    by_cases he : y = u
                    all_goals
                      have HEq2 := Lib.hid he
                      clear he
                      go_wp2_with fail
                      refine wp_region_inv [] (fun W => Below wr.heap.size wr W) (fun W W' => Below W.heap.size W W') 11 (by kernel_rfl) (by kernel_rfl) (by kernel_rfl) ((Below.refl _ _).drew) (fun W W' h h' => h.trans (h'.mono h.size)) (fun _ _ h => h.size) ?_
                      simp only [List.take_succ_cons, List.take_zero, List.drop_succ_cons, List.drop_zero]
                      refine wpInv_det (by kernel_rfl) (by kernel_rfl) ?_
                      apply Exists.intro
                      refine ⟨?_, ?_, ?_⟩
                      · intro U W hC hH
                        have hc1 := (bcell hC).1
                        have hf1 := (bcell hC).2
                        simp only [HypsU, predsOf, Region.binds, List.filterMap_cons, List.filterMap_nil, if_true, List.nil_append, List.cons_append, List.getD_cons_zero, List.getD_cons_succ] at hH
                        simp only [fillPuts, Act.put, List.setIfInBounds_toArray, List.set_cons_zero, List.set_cons_succ, Nat.reduceAdd]
                        go_wp2_with fail
                        refine ⟨rfl, rfl, by (repeat' (first | (with_reducible exact Below.refl _ _) | (with_reducible assumption) | (with_reducible refine Below.alloc ?_ ?_ _) | (with_reducible refine below_grew ?_ ?_ _) | (with_reducible refine Below.setCell ?_ ?_ _) | (with_reducible refine Below.drew ?_) | (with_reducible refine below_drewN ?_ _) | omega | (simp; done) | (simp; omega))), ?_⟩
                        conv => lhs; whnf
                        try rfl
                      · exact fun _ => rfl
                      simp only [List.nil_append, List.cons_append, Nat.reduceAdd]
                      refine wpInv_det (by kernel_rfl) (by kernel_rfl) ?_
                      apply Exists.intro
                      refine ⟨?_, ?_, ?_⟩
                      · intro U W hC hH
                        have hc1 := (bcell hC).1
                        have hf1 := (bcell hC).2
                        simp only [HypsU, predsOf, Region.binds, List.filterMap_cons, List.filterMap_nil, if_true, List.nil_append, List.cons_append, List.getD_cons_zero, List.getD_cons_succ] at hH
                        simp only [fillPuts, Act.put, List.setIfInBounds_toArray, List.set_cons_zero, List.set_cons_succ, Nat.reduceAdd]
                        go_wp2_with fail
                        refine ⟨rfl, rfl, by (repeat' (first | (with_reducible exact Below.refl _ _) | (with_reducible assumption) | (with_reducible refine Below.alloc ?_ ?_ _) | (with_reducible refine below_grew ?_ ?_ _) | (with_reducible refine Below.setCell ?_ ?_ _) | (with_reducible refine Below.drew ?_) | (with_reducible refine below_drewN ?_ _) | omega | (simp; done) | (simp; omega))), ?_⟩
                        conv => lhs; whnf
                        try rfl
                      · exact fun _ => rfl
                      simp only [List.nil_append, List.cons_append, Nat.reduceAdd]
                      refine wpInv_det (by kernel_rfl) (by kernel_rfl) ?_
                      apply Exists.intro
                      refine ⟨?_, ?_, ?_⟩
                      · intro U W hC hH
                        have hc1 := (bcell hC).1
                        have hf1 := (bcell hC).2
                        simp only [HypsU, predsOf, Region.binds, List.filterMap_cons, List.filterMap_nil, if_true, List.nil_append, List.cons_append, List.getD_cons_zero, List.getD_cons_succ] at hH
                        simp only [fillPuts, Act.put, List.setIfInBounds_toArray, List.set_cons_zero, List.set_cons_succ, Nat.reduceAdd]
                        go_wp2_with fail
                        refine ⟨rfl, rfl, by (repeat' (first | (with_reducible exact Below.refl _ _) | (with_reducible assumption) | (with_reducible refine Below.alloc ?_ ?_ _) | (with_reducible refine below_grew ?_ ?_ _) | (with_reducible refine Below.setCell ?_ ?_ _) | (with_reducible refine Below.drew ?_) | (with_reducible refine below_drewN ?_ _) | omega | (simp; done) | (simp; omega))), ?_⟩
                        conv => lhs; whnf
                        try rfl
                      · exact fun _ => rfl
                      simp only [List.nil_append, List.cons_append, Nat.reduceAdd]
                      refine wpInv_det (by kernel_rfl) (by kernel_rfl) ?_
                      apply Exists.intro
                      refine ⟨?_, ?_, ?_⟩
                      · intro U W hC hH
                        have hc1 := (bcell hC).1
                        have hf1 := (bcell hC).2
                        simp only [HypsU, predsOf, Region.binds, List.filterMap_cons, List.filterMap_nil, if_true, List.nil_append, List.cons_append, List.getD_cons_zero, List.getD_cons_succ] at hH
                        simp only [fillPuts, Act.put, List.setIfInBounds_toArray, List.set_cons_zero, List.set_cons_succ, Nat.reduceAdd]
                        go_wp2_with fail
                        refine ⟨rfl, rfl, by (repeat' (first | (with_reducible exact Below.refl _ _) | (with_reducible assumption) | (with_reducible refine Below.alloc ?_ ?_ _) | (with_reducible refine below_grew ?_ ?_ _) | (with_reducible refine Below.setCell ?_ ?_ _) | (with_reducible refine Below.drew ?_) | (with_reducible refine below_drewN ?_ _) | omega | (simp; done) | (simp; omega))), ?_⟩
                        conv => lhs; whnf
                        try rfl
                      · exact fun _ => rfl
                      simp only [List.nil_append, List.cons_append, Nat.reduceAdd]
                      refine wpInv_det (by kernel_rfl) (by kernel_rfl) ?_
                      apply Exists.intro
                      refine ⟨?_, ?_, ?_⟩
                      · intro U W hC hH
                        have hc1 := (bcell hC).1
                        have hf1 := (bcell hC).2
                        simp only [HypsU, predsOf, Region.binds, List.filterMap_cons, List.filterMap_nil, if_true, List.nil_append, List.cons_append, List.getD_cons_zero, List.getD_cons_succ] at hH
                        simp only [fillPuts, Act.put, List.setIfInBounds_toArray, List.set_cons_zero, List.set_cons_succ, Nat.reduceAdd]
                        go_wp2_with fail
                        refine ⟨rfl, rfl, by (repeat' (first | (with_reducible exact Below.refl _ _) | (with_reducible assumption) | (with_reducible refine Below.alloc ?_ ?_ _) | (with_reducible refine below_grew ?_ ?_ _) | (with_reducible refine Below.setCell ?_ ?_ _) | (with_reducible refine Below.drew ?_) | (with_reducible refine below_drewN ?_ _) | omega | (simp; done) | (simp; omega))), ?_⟩
                        conv => lhs; whnf
                        try rfl
                      · exact fun _ => rfl
                      simp only [List.nil_append, List.cons_append, Nat.reduceAdd]
                      refine wpInv_det (by kernel_rfl) (by kernel_rfl) ?_
                      apply Exists.intro
                      refine ⟨?_, ?_, ?_⟩
                      · intro U W hC hH
                        have hc1 := (bcell hC).1
                        have hf1 := (bcell hC).2
                        simp only [HypsU, predsOf, Region.binds, List.filterMap_cons, List.filterMap_nil, if_true, List.nil_append, List.cons_append, List.getD_cons_zero, List.getD_cons_succ] at hH
                        simp only [fillPuts, Act.put, List.setIfInBounds_toArray, List.set_cons_zero, List.set_cons_succ, Nat.reduceAdd]
                        go_wp2_with fail
                        refine ⟨rfl, rfl, by (repeat' (first | (with_reducible exact Below.refl _ _) | (with_reducible assumption) | (with_reducible refine Below.alloc ?_ ?_ _) | (with_reducible refine below_grew ?_ ?_ _) | (with_reducible refine Below.setCell ?_ ?_ _) | (with_reducible refine Below.drew ?_) | (with_reducible refine below_drewN ?_ _) | omega | (simp; done) | (simp; omega))), ?_⟩
                        conv => lhs; whnf
                        try rfl
                      · exact fun _ => rfl
                      simp only [List.nil_append, List.cons_append, Nat.reduceAdd]
                      refine wpInv_det (by kernel_rfl) (by kernel_rfl) ?_
                      apply Exists.intro
                      refine ⟨?_, ?_, ?_⟩
                      · intro U W hC hH
                        have hc1 := (bcell hC).1
                        have hf1 := (bcell hC).2
                        simp only [HypsU, predsOf, Region.binds, List.filterMap_cons, List.filterMap_nil, if_true, List.nil_append, List.cons_append, List.getD_cons_zero, List.getD_cons_succ] at hH
                        simp only [fillPuts, Act.put, List.setIfInBounds_toArray, List.set_cons_zero, List.set_cons_succ, Nat.reduceAdd]
                        go_wp2_with fail
                        refine ⟨rfl, rfl, by (repeat' (first | (with_reducible exact Below.refl _ _) | (with_reducible assumption) | (with_reducible refine Below.alloc ?_ ?_ _) | (with_reducible refine below_grew ?_ ?_ _) | (with_reducible refine Below.setCell ?_ ?_ _) | (with_reducible refine Below.drew ?_) | (with_reducible refine below_drewN ?_ _) | omega | (simp; done) | (simp; omega))), ?_⟩
                        conv => lhs; whnf
                        try rfl
                      · exact fun _ => rfl
                      simp only [List.nil_append, List.cons_append, Nat.reduceAdd]
                      refine wpInv_det (by kernel_rfl) (by kernel_rfl) ?_
                      apply Exists.intro
                      refine ⟨?_, ?_, ?_⟩
                      · intro U W hC hH
                        have hc1 := (bcell hC).1
                        have hf1 := (bcell hC).2
                        simp only [HypsU, predsOf, Region.binds, List.filterMap_cons, List.filterMap_nil, if_true, List.nil_append, List.cons_append, List.getD_cons_zero, List.getD_cons_succ] at hH
                        simp only [fillPuts, Act.put, List.setIfInBounds_toArray, List.set_cons_zero, List.set_cons_succ, Nat.reduceAdd]
                        go_wp2_with fail
                        refine ⟨rfl, rfl, by (repeat' (first | (with_reducible exact Below.refl _ _) | (with_reducible assumption) | (with_reducible refine Below.alloc ?_ ?_ _) | (with_reducible refine below_grew ?_ ?_ _) | (with_reducible refine Below.setCell ?_ ?_ _) | (with_reducible refine Below.drew ?_) | (with_reducible refine below_drewN ?_ _) | omega | (simp; done) | (simp; omega))), ?_⟩
                        conv => lhs; whnf
                        try rfl
                      · exact fun _ => rfl
                      simp only [List.nil_append, List.cons_append, Nat.reduceAdd]
                      refine wpInv_det (by kernel_rfl) (by kernel_rfl) ?_
                      apply Exists.intro
                      refine ⟨?_, ?_, ?_⟩
                      · intro U W hC hH
                        have hc1 := (bcell hC).1
                        have hf1 := (bcell hC).2
                        simp only [HypsU, predsOf, Region.binds, List.filterMap_cons, List.filterMap_nil, if_true, List.nil_append, List.cons_append, List.getD_cons_zero, List.getD_cons_succ] at hH
                        simp only [fillPuts, Act.put, List.setIfInBounds_toArray, List.set_cons_zero, List.set_cons_succ, Nat.reduceAdd]
                        go_wp2_with fail
                        refine ⟨rfl, rfl, by (repeat' (first | (with_reducible exact Below.refl _ _) | (with_reducible assumption) | (with_reducible refine Below.alloc ?_ ?_ _) | (with_reducible refine below_grew ?_ ?_ _) | (with_reducible refine Below.setCell ?_ ?_ _) | (with_reducible refine Below.drew ?_) | (with_reducible refine below_drewN ?_ _) | omega | (simp; done) | (simp; omega))), ?_⟩
                        conv => lhs; whnf
                        try rfl
                      · exact fun _ => rfl
                      simp only [List.nil_append, List.cons_append, Nat.reduceAdd]
                      refine wpInv_det (by kernel_rfl) (by kernel_rfl) ?_
                      apply Exists.intro
                      refine ⟨?_, ?_, ?_⟩
                      · intro U W hC hH
                        have hc1 := (bcell hC).1
                        have hf1 := (bcell hC).2
                        simp only [HypsU, predsOf, Region.binds, List.filterMap_cons, List.filterMap_nil, if_true, List.nil_append, List.cons_append, List.getD_cons_zero, List.getD_cons_succ] at hH
                        simp only [fillPuts, Act.put, List.setIfInBounds_toArray, List.set_cons_zero, List.set_cons_succ, Nat.reduceAdd]
                        go_wp2_with fail
                        refine ⟨rfl, rfl, by (repeat' (first | (with_reducible exact Below.refl _ _) | (with_reducible assumption) | (with_reducible refine Below.alloc ?_ ?_ _) | (with_reducible refine below_grew ?_ ?_ _) | (with_reducible refine Below.setCell ?_ ?_ _) | (with_reducible refine Below.drew ?_) | (with_reducible refine below_drewN ?_ _) | omega | (simp; done) | (simp; omega))), ?_⟩
                        conv => lhs; whnf
                        try rfl
                      · exact fun _ => rfl
                      simp only [List.nil_append, List.cons_append, Nat.reduceAdd]
                      refine wpInv_det (by kernel_rfl) (by kernel_rfl) ?_
                      apply Exists.intro
                      refine ⟨?_, ?_, ?_⟩
                      · intro U W hC hH
                        have hc1 := (bcell hC).1
                        have hf1 := (bcell hC).2
                        simp only [HypsU, predsOf, Region.binds, List.filterMap_cons, List.filterMap_nil, if_true, List.nil_append, List.cons_append, List.getD_cons_zero, List.getD_cons_succ] at hH
                        simp only [fillPuts, Act.put, List.setIfInBounds_toArray, List.set_cons_zero, List.set_cons_succ, Nat.reduceAdd]
                        go_wp2_with fail; refine (hsat.out _).mono ?_; rintro e w' ⟨rfl, hb1⟩; obtain ⟨x1, rfl⟩ := below_as_grew hb1; clear hb1; go_wp2_with fail
                        refine ⟨rfl, rfl, by (repeat' (first | (with_reducible exact Below.refl _ _) | (with_reducible assumption) | (with_reducible refine Below.alloc ?_ ?_ _) | (with_reducible refine below_grew ?_ ?_ _) | (with_reducible refine Below.setCell ?_ ?_ _) | (with_reducible refine Below.drew ?_) | (with_reducible refine below_drewN ?_ _) | omega | (simp; done) | (simp; omega))), ?_⟩
                        conv => lhs; whnf
                        try rfl
                      · exact fun _ => rfl
                      simp only [List.nil_append, List.cons_append, Nat.reduceAdd]
                      simp only [List.nil_append, List.cons_append, Nat.reduceAdd, fillPuts, Act.put, List.setIfInBounds_toArray, List.set_cons_zero, List.set_cons_succ]
                      rintro U W hC ⟨h0, h1, h2, h3, h4, h5, h6, h7, h8, h9, h10, -⟩ -
                      simp only [h0, h1, h2, h3, h4, h5, h6, h7, h8, h9, h10]
                      clear h0 h1 h2 h3 h4 h5 h6 h7 h8 h9 h10
                    · have hb1 : (y == u) = true := by simpa using HEq2.out
                      have hb2 : (y != u) = false := by simpa using HEq2.out
                      have HC := Lib.hid hC
                      clear hC
                      go_wp2_with fail
                      go_roundw
                      case rel =>
                        refine ⟨k + 1, by omega, rfl, HL3.out.keep HC.out, fun ch hch => ?_⟩
                        by_cases e : ch = k
                        · rw [e]
                          exact ⟨HE2.out, HH3.out, by rw [HY.out, HU.out, HEq2.out]⟩
                        · exact HALL.out ch (by omega)
                      case measure => simp [intOf]; omega
                    · have hb1 : (y == u) = false := by simpa using HEq2.out
                      have hb2 : (y != u) = true := by simpa using HEq2.out
                      have HC := Lib.hid hC
                      clear hC
                      go_wp2_with fail
                      go_ret
                      exact ⟨ret_bool (by
                        cases q with
                        | false => rfl
                        | true => have h2 := ((HQ.out.1 rfl).2.2 k hlt).2.2; rw [HY.out, HU.out] at h2; exact absurd h2.symm HEq2.out), by rw [HBd.out]; exact (HL3.out.keep HC.out).below⟩
          · have hlt' : ¬ (k : Int) < c := by omega
            obtain rfl : k = c := by omega
            go_wp2_with fail
            go_ret
            exact ⟨ret_bool (HQ.out.2 ⟨(eqB_iff _ _).1 HZ.out, by rw [HLO.out]; omega, HALL.out⟩).symm, by rw [HBd.out]; exact HL.out.below⟩
end Go.Proofs.YtcibajleknhklaaDoor
end

section
namespace Go.Proofs.YtcibajleknhklaaDoor
open Go.RowKit Go.BigFrame Go.Proofs.YtcibajleknhklaaDoorW.PrintWords Go.Proofs.YtcibajleknhklaaDoorW.PrintLast Go.Proofs.YtcibajleknhklaaDoorW.PrintMore
open PStateTells RStateTells
set_option linter.unusedSimpArgs false
set_option linter.unusedVariables false
/-- The greatest magnitude of so many numbers of a history. -/
def pkTo (st : Nat → Int) (ch : Nat) : Nat → Int
  | 0 => 0
  | i + 1 => max (max (pkTo st ch i) (st (74 + ch * 32 + i))) (-(st (74 + ch * 32 + i)))
theorem pkTo_bd (st : Nat → Int) (ch : Nat) (hc : ch < 2) (h32 : ∀ j, 10 ≤ j → j < 140 → -2147483648 ≤ st j ∧ st j ≤ 2147483647) : ∀ i, i ≤ 32 → 0 ≤ pkTo st ch i ∧ pkTo st ch i ≤ 2147483648
  | 0, _ => by simp [pkTo]
  | i + 1, h => by
    have h1 := pkTo_bd st ch hc h32 i (by omega)
    have h2 := h32 (74 + ch * 32 + i) (by omega) (by omega)
    rw [pkTo]
    omega
set_option maxHeartbeats 4000000 in
set_option maxRecDepth 100000 in
theorem peak_no (st : Nat → Int) (s c ch : Int) (h : ch < 0 ∨ c ≤ ch ∨ ¬ RightP s c) (w : World) :
    Calls Tryd.prog 52 #[.agg (ag kS 142 st), .agg #[.int .i64 s, .int .i64 c], .int .i64 ch] w fun e w' => e = .returned (.int .i32 0) ∧ Below w.heap.size w w' := by
  by_cases h0 : ch < 0
  · clear h
    go_enter Tryd.func52, Tryd.ntmps52
    go_wp2_with fail
    go_ret
    exact ⟨rfl, by (repeat' (first | (with_reducible exact Below.refl _ _) | (with_reducible assumption) | (with_reducible refine Below.alloc ?_ ?_ _) | (with_reducible refine below_grew ?_ ?_ _) | (with_reducible refine Below.setCell ?_ ?_ _) | (with_reducible refine Below.drew ?_) | (with_reducible refine below_drewN ?_ _) | omega | (simp; done) | (simp; omega)))⟩
  · by_cases h1 : c ≤ ch
    · clear h
      have h2 : ch ≥ c := h1
      go_enter Tryd.func52, Tryd.ntmps52
      go_wp2_with fail
      go_ret
      exact ⟨rfl, by (repeat' (first | (with_reducible exact Below.refl _ _) | (with_reducible assumption) | (with_reducible refine Below.alloc ?_ ?_ _) | (with_reducible refine below_grew ?_ ?_ _) | (with_reducible refine Below.setCell ?_ ?_ _) | (with_reducible refine Below.drew ?_) | (with_reducible refine below_drewN ?_ _) | omega | (simp; done) | (simp; omega)))⟩
    · have hRt := Lib.hid (fun w => modeRight s c w)
      rw [decide_eq_false (show ¬ RightP s c from h.elim (fun h => absurd h h0) (fun h => h.elim (fun h => absurd h h1) id))] at hRt
      clear h
      have h2 : ch < c := by omega
      clear h1
      go_enter Tryd.func52, Tryd.ntmps52
      go_wp2_with (go_at_call 86; refine (hRt.out _).mono ?_; rintro e w' ⟨rfl, hb1⟩; obtain ⟨x1, rfl⟩ := below_as_grew hb1; clear hb1)
      go_ret
      exact ⟨rfl, by (repeat' (first | (with_reducible exact Below.refl _ _) | (with_reducible assumption) | (with_reducible refine Below.alloc ?_ ?_ _) | (with_reducible refine below_grew ?_ ?_ _) | (with_reducible refine Below.setCell ?_ ?_ _) | (with_reducible refine Below.drew ?_) | (with_reducible refine below_drewN ?_ _) | omega | (simp; done) | (simp; omega)))⟩
set_option maxHeartbeats 4000000 in
set_option maxRecDepth 100000 in
theorem peak_yes (st : Nat → Int) (s : Int) (c ch : Nat) (hs : 0 ≤ s ∧ s ≤ 2) (hc : 1 ≤ c ∧ c ≤ 2) (hch : ch < c) (h32 : ∀ j, 10 ≤ j → j < 140 → -2147483648 ≤ st j ∧ st j ≤ 2147483647) (w : World) :
    Calls Tryd.prog 52 #[.agg (ag kS 142 st), .agg #[.int .i64 s, .int .i64 c], .int .i64 ch] w fun e w' => e = .returned (.int .i32 (min (pkTo st ch (nOf s)) 2147483647)) ∧ Below w.heap.size w w' := by
  have hRt := Lib.hid (fun w => modeRight s c w)
  rw [decide_eq_true (show RightP s c from ⟨by omega, by omega, by omega, by omega⟩)] at hRt
  have hN := Lib.hid (fun w => modeN26 s c hs (by omega) w)
  obtain ⟨n, hn⟩ : ∃ n, nOf s = n := ⟨_, rfl⟩
  rw [hn] at hN
  have hn32 : 8 ≤ n ∧ n ≤ 32 := by have := nOf_len s; rw [hn] at this; unfold Len at this; omega
  rw [hn]
  have H32 := Lib.hid h32
  have hlt : (ch : Int) < c := by omega
  have h0 : (0 : Int) ≤ ch := by omega
  have h2 : (ch : Int) < 2 := by omega
  have n0 : (0 : Int) ≤ n := by omega
  have n32 : (n : Int) ≤ 32 := by omega
  clear hn h32
  go_enter Tryd.func52, Tryd.ntmps52
  go_upto_region 3 with (go_at_call 86; refine (hRt.out _).mono ?_; rintro e w' ⟨rfl, hb1⟩; obtain ⟨x1, rfl⟩ := below_as_grew hb1; clear hb1)
  refine cut_world (fun V => L2 w w.heap.size st s c V) ⟨by (repeat' (first | (with_reducible exact Below.refl _ _) | (with_reducible assumption) | (with_reducible refine Below.alloc ?_ ?_ _) | (with_reducible refine below_grew ?_ ?_ _) | (with_reducible refine Below.setCell ?_ ?_ _) | (with_reducible refine Below.drew ?_) | (with_reducible refine below_drewN ?_ _) | omega | (simp; done) | (simp; omega))), by simp; omega, (World.grew_block _ _ _ (by simp; omega)).trans (alloc_two _ _ _), (World.grew_block _ _ _ (by simp)).trans (alloc_secondOf _ _ _)⟩ ?_
  intro V hV
  generalize hBd : w.heap.size = B at *
  have HBd := Lib.hid hBd
  have HV := Lib.hid hV
  have m0 := hV.m0
  have m1 := hV.m1
  have hVs := hV.size
  have hVs2 : B < V.heap.size := by omega
  clear hBd hV
  go_wp2_with fail
  first | refine wp_region_grew_all2 (by kernel_rfl) (by kernel_rfl) ?_ | refine wp_region_grew_all (by kernel_rfl) (by kernel_rfl) ?_
  repeat (go_big_quiet_step ((go_at_call 47; exact Calls.grew_of (hN.out _))))
  refine wpQuiet_nil ?_
  rintro _ ⟨x, rfl⟩
  have hC : Below V.heap.size V (V.grew x) := below_grew (Below.refl _ _) (Nat.le_refl _) _
  clear m0 m1
  have hW := HV.out.keep hC
  have HW := Lib.hid hW
  clear hW hC
  go_wp2_with fail
  go_loopw [7, 30] (fun pk cnt wr => ∃ i : Nat, i ≤ n ∧ cnt = .int .i64 i ∧ pk = .int .i64 (pkTo st ch i) ∧ L2 w B st s c wr) (fun _ cnt _ => n - (intOf cnt).toNat)
  case atStart => exact ⟨0, by omega, rfl, rfl, HW.out⟩
  case round =>
    obtain ⟨i, hi, rfl, rfl, hL⟩ := hrel
    have HL := Lib.hid hL
    have hpk := pkTo_bd st ch (by omega) H32.out i (by omega)
    obtain ⟨p, hp⟩ : ∃ p, pkTo st ch i = p := ⟨_, rfl⟩
    rw [hp] at hpk
    have HP := Lib.hid hp
    clear hL
    by_cases hlt2 : i < n
    · have hlt2' : (i : Int) < n := by omega
      have hi0 : (0 : Int) ≤ i := by omega
      have r0 := ag_cell HL.out.st (74 + ch * 32 + i) (by omega)
      rw [kS_I _ (by omega) (by omega)] at r0
      obtain ⟨y1, y2⟩ := H32.out (74 + ch * 32 + i) (by omega) (by omega)
      generalize hy : st (74 + ch * 32 + i) = y at r0 y1 y2
      have HY := Lib.hid hy
      clear hy
      rw [hp]
      clear hp
      go_wp2_with fail
      go_roundw
      case rel => exact ⟨i + 1, by omega, rfl, by rw [pkTo, HP.out, HY.out]; exact congrArg (Value.int .i64) (by omega), HL.out⟩
      case measure => simp [intOf]; omega
    · have hlt2' : ¬ (i : Int) < n := by omega
      obtain rfl : i = n := by omega
      rw [hp]
      clear hp
      obtain ⟨p1, p2⟩ := hpk
      have p3 : 0 ≤ min p 2147483647 := by omega
      have p4 : min p 2147483647 ≤ 2147483647 := by omega
      go_wp2_with fail
      go_ret
      exact ⟨by rw [HP.out]; rfl, by rw [HBd.out]; exact HL.out.below⟩
end Go.Proofs.YtcibajleknhklaaDoor
end

section
namespace Go.Proofs.YtcibajleknhklaaDoor
open Go.RowKit Go.BigFrame Go.Proofs.YtcibajleknhklaaDoorW.PrintWords Go.Proofs.YtcibajleknhklaaDoorW.PrintLast Go.Proofs.YtcibajleknhklaaDoorW.PrintMore
set_option linter.unusedSimpArgs false
set_option linter.unusedVariables false
abbrev Rt := 124
def fiveL (st : Nat → Int) : List Value := [.int .i64 (st 0), .int .i64 (st 1), .int .i64 (st 2), .int .i64 (st 3), .int .i64 (st 4), .int .i64 (st 5), .int .i64 (st 6), .int .i64 (st 7), .int .i64 (st 8), .int .i64 (st 9)]
theorem rangeE {w : World} {b : Nat} {e : TypeId} {st : Nat → Int} (h : w.heap[b]? = some (.cells (ag kS 142 st) e (0, 0))) : w.rangeAt b 0 (fiveL st) := by
  intro j v hv
  have hj : j < 10 := (List.getElem?_eq_some_iff.1 hv).1
  rw [Nat.zero_add, ag_cell h j (by omega), ← hv]
  have h10 : ∀ i : Fin 10, some (Value.int (kS i.val) (st i.val)) = (fiveL st)[i.val]? := by
    intro i
    rcases i with ⟨i, hi⟩
    rcases (show i = 0 ∨ i = 1 ∨ i = 2 ∨ i = 3 ∨ i = 4 ∨ i = 5 ∨ i = 6 ∨ i = 7 ∨ i = 8 ∨ i = 9 by omega) with h | h | h | h | h | h | h | h | h | h <;> subst h <;> rfl
  exact h10 ⟨j, hj⟩
theorem zero42_size : Tryd.zeroCells124.size = 142 := by kernel_rfl
theorem zero42_le (f : Nat → Int) : (ag kP 142 f).size ≤ Tryd.zeroCells124.size := by rw [ag_size, zero42_size]; exact Nat.le_refl _
theorem infoR : (Tryd.prog.info? 124).map (·.size) = some 142 := by kernel_rfl
theorem infoR_ag (f : Nat → Int) : (Tryd.prog.info? 124).map (·.size) = some (ag kP 142 f).size := by rw [ag_size]; exact infoR
theorem there42 {w : World} {b : Nat} (h : w.heap[b]? = some (.cells Tryd.zeroCells124 124 (0, 0))) (f : Nat → Int) : w.there b 0 (ag kP 142 f).size := there_row h _ (zero42_le f)
/-- What is laid down before the loops. -/
def plain0 (st : Nat → Int) : Nat → Int := fun i => if i < 10 then st i else if i < 140 then 0 else st i
set_option maxHeartbeats 4000000 in
set_option maxRecDepth 100000 in
theorem plainS_any (st : Nat → Int) (hst : ∀ j, 10 ≤ j → j < 140 → -2147483648 ≤ st j ∧ st j ≤ 2147483647) (w : World) :
    Calls Tryd.prog 57 #[.agg (ag kS 142 st)] w fun e w' => e = .returned (.agg (ag kP 142 st)) ∧ Below w.heap.size w w' := by
  have e140 : (ag kS 142 st)[140]? = some (.int .u32 (st 140)) := ag_get _ _ _ _ (by decide)
  have e141 : (ag kS 142 st)[141]? = some (.int .i64 (st 141)) := ag_get _ _ _ _ (by decide)
  go_enter Tryd.func57, Tryd.ntmps57
  go_wp2_with (first | (refine wpList_load_mid rfl 92 _ rfl w.heap.size 0 rfl (fiveL st) _ (rangeE (alloc_two _ _ _)) Tryd.underlying92 rfl (by kernel_rfl) ?_) | (refine build_to rfl Rt _ rfl (ag kP 142 (plain0 st)) (by kernel_rfl) ?_) | (refine wpList_store_mid rfl Rt _ _ rfl (w.heap.size + 1 + 1) 0 (ag kP 142 (plain0 st)) rfl rfl ?hth ?hin ?hon ?_; (case hth => exact there42 (alloc_third _ _ _ _) _); (case hin => exact infoR_ag (plain0 st)); (case hon => exact ag_one kP 142 (plain0 st))))
  refine cut_world (fun V => Below w.heap.size w V ∧ w.heap.size + 2 < V.heap.size ∧ V.heap[w.heap.size]? = some (.cells (ag kS 142 st) St (0, 0)) ∧ V.heap[w.heap.size + 1]? = some (.cells Tryd.zeroCells124 Rt (0, 0)) ∧ V.heap[w.heap.size + 2]? = some (.cells (ag kP 142 (plain0 st)) Rt (0, 0))) ⟨?_, ?_, ?_, ?_, ?_⟩ ?_
  · exact below_cells (by (repeat' (first | (with_reducible exact Below.refl _ _) | (with_reducible assumption) | (with_reducible refine Below.alloc ?_ ?_ _) | (with_reducible refine below_grew ?_ ?_ _) | (with_reducible refine Below.setCell ?_ ?_ _) | (with_reducible refine Below.drew ?_) | (with_reducible refine below_drewN ?_ _) | omega | (simp; done) | (simp; omega)))) (by omega) _
  · rw [(setCells_same _ _ _ _).2.2.2]; simp
  · exact (setCells_far _ _ _ (by omega)).trans (alloc_three _ _ _ _)
  · exact (setCells_far _ _ _ (by omega)).trans (alloc_second _ _ _ _)
  · exact cells_all (N := 142) (alloc_third _ _ _ _) zero42_size (ag_size _ _ _)
  rintro V ⟨hV, hVs, hVb, hVc, hVd⟩
  have HV := Lib.hid hV
  have HVB := Lib.hid hVb
  have HVC := Lib.hid hVc
  have HVD := Lib.hid hVd
  clear hV hVb hVc hVd e140 e141
  generalize hBd : w.heap.size = B at *
  have HBd := Lib.hid hBd
  clear hBd
  go_loopw [13] (fun cnt wr => ∃ (c : Nat) (f : Nat → Int), c ≤ 2 ∧ cnt = .int .i64 c ∧ Below B w wr ∧ B + 2 < wr.heap.size ∧ wr.heap[B]? = some (.cells (ag kS 142 st) St (0, 0)) ∧ wr.heap[B + 1]? = some (.cells Tryd.zeroCells124 Rt (0, 0)) ∧ wr.heap[B + 2]? = some (.cells (ag kP 142 f) Rt (0, 0)) ∧ (∀ j, j < 142 → (j < 10 + 32 * c ∨ (74 ≤ j ∧ j < 74 + 32 * c) ∨ (138 ≤ j ∧ j < 138 + c) ∨ 140 ≤ j) → f j = st j)) (fun cnt _ => 2 - (intOf cnt).toNat)
  case atStart => exact ⟨0, plain0 st, by omega, rfl, HV.out, hVs, HVB.out, HVC.out, HVD.out, fun j hj h => by unfold plain0; split <;> (try split) <;> first | rfl | omega⟩
  case round =>
    obtain ⟨c, f, hc, rfl, hB, hs, hb, hz, hr, hf⟩ := hrel
    have HB := Lib.hid hB
    have HCB := Lib.hid hb
    have HCZ := Lib.hid hz
    have HCR := Lib.hid hr
    have HF := Lib.hid hf
    clear hB hb hz hr hf
    by_cases hlt : c < 2
    · have hlt' : (c : Int) < 2 := by omega
      have hc0 : (0 : Int) ≤ c := by omega
      have m0 : wr.cell? ⟨B, 138 + c, none⟩ = some (.int .i32 (st (138 + c))) := by
        rw [ag_cell HCB.out (138 + c) (by omega), show kS (138 + c) = .i32 from by unfold kS; rw [if_neg (by omega), if_pos (by omega)]]
      have m1 := (block_facts HCR.out).1 (138 + c)
      rw [ag_get _ _ _ _ (by omega)] at m1
      have m2 := (block_facts HCR.out).2.1 (138 + c)
      have hwB : B < wr.heap.size := by omega
      generalize hmm : st (138 + c) = mm at m0
      go_wp2_with fail
      rw [show wrap64 mm = mm from by have := hst (138 + c) (by omega) (by omega); rw [hmm] at this; exact w64_id (by omega) (by omega)]
      refine cut_world (fun W => Below B w W ∧ B + 2 < W.heap.size ∧ W.heap[B]? = some (.cells (ag kS 142 st) St (0, 0)) ∧ W.heap[B + 1]? = some (.cells Tryd.zeroCells124 Rt (0, 0)) ∧ W.heap[B + 2]? = some (.cells (ag kP 142 (updI f (138 + c) mm)) Rt (0, 0))) ⟨?_, ?_, ?_, ?_, ?_⟩ ?_
      · have := HB.out
        (repeat' (first | (with_reducible exact Below.refl _ _) | (with_reducible assumption) | (with_reducible refine Below.alloc ?_ ?_ _) | (with_reducible refine below_grew ?_ ?_ _) | (with_reducible refine Below.setCell ?_ ?_ _) | (with_reducible refine Below.drew ?_) | (with_reducible refine below_drewN ?_ _) | omega | (simp; done) | (simp; omega)))
      · simpa using hs
      · exact (Below.heap_setCell wr ⟨B + 1 + 1, 138 + c, none⟩ _ B (by simp; omega)).trans HCB.out
      · exact (Below.heap_setCell wr ⟨B + 1 + 1, 138 + c, none⟩ _ (B + 1) (by simp)).trans HCZ.out
      · have := ag_store HCR.out (138 + c) (by omega) mm
        rw [show kP (138 + c) = .i64 from by unfold kP; rw [if_neg (by omega)]] at this
        exact this
      rintro W ⟨hB, hs', hb, hz, hr⟩
      have HB2 := Lib.hid hB
      have HCB2 := Lib.hid hb
      have HCZ2 := Lib.hid hz
      have HCR2 := Lib.hid hr
      have HM := Lib.hid hmm
      clear hB hb hz hr m0 m1 m2 hmm hwB
      go_loopw [24] (fun cnt wi => ∃ (i : Nat) (g : Nat → Int), i ≤ 32 ∧ cnt = .int .i64 i ∧ Below B w wi ∧ B + 2 < wi.heap.size ∧ wi.heap[B]? = some (.cells (ag kS 142 st) St (0, 0)) ∧ wi.heap[B + 1]? = some (.cells Tryd.zeroCells124 Rt (0, 0)) ∧ wi.heap[B + 2]? = some (.cells (ag kP 142 g) Rt (0, 0)) ∧ (∀ j, j < 142 → (j < 10 + 32 * c + i ∨ (74 ≤ j ∧ j < 74 + 32 * c + i) ∨ (138 ≤ j ∧ j < 138 + c + 1) ∨ 140 ≤ j) → g j = st j)) (fun cnt _ => 32 - (intOf cnt).toNat)
      case atStart => exact ⟨0, _, by omega, rfl, HB2.out, hs', HCB2.out, HCZ2.out, HCR2.out, fun j hj h => by
        unfold updI
        by_cases e : j = 138 + c
        · rw [if_pos e, e, HM.out]
        · rw [if_neg e]; exact HF.out j hj (by omega)⟩
      case round =>
        obtain ⟨i, g, hi, rfl, hB, hs2, hb, hz, hr, hg⟩ := hrel
        have HB3 := Lib.hid hB
        have HCB3 := Lib.hid hb
        have HCZ3 := Lib.hid hz
        have HCR3 := Lib.hid hr
        have HG := Lib.hid hg
        clear hB hb hz hr hg
        by_cases hlt2 : i < 32
        · have hlt2' : (i : Int) < 32 := by omega
          have hi0 : (0 : Int) ≤ i := by omega
          have r0 : wr.cell? ⟨B, 10 + c * 32 + i, none⟩ = some (.int .i32 (st (10 + c * 32 + i))) := by
            rw [ag_cell HCB3.out (10 + c * 32 + i) (by omega), show kS (10 + c * 32 + i) = .i32 from by unfold kS; rw [if_neg (by omega), if_pos (by omega)]]
          have hwB : B < wr.heap.size := by omega
          have hwB2 : B + 2 < wr.heap.size := hs2
          generalize hx : st (10 + c * 32 + i) = x at r0
          go_wp2_with fail
          refine wp_region_inv [] (fun W => Below wr.heap.size wr W) (fun W W' => Below W.heap.size W W') 12 (by kernel_rfl) (by kernel_rfl) (by kernel_rfl) ((Below.refl _ _).drew) (fun W W' h h' => h.trans (h'.mono h.size)) (fun _ _ h => h.size) ?_
          simp only [List.take_succ_cons, List.take_zero, List.drop_succ_cons, List.drop_zero]
          refine wpInv_det (by kernel_rfl) (by kernel_rfl) ?_
          apply Exists.intro
          refine ⟨?_, ?_, ?_⟩
          · intro U W hC hH
            have hc1 := (bcell hC).1
            have hf1 := (bcell hC).2
            simp only [HypsU, predsOf, Region.binds, List.filterMap_cons, List.filterMap_nil, if_true, List.nil_append, List.cons_append, List.getD_cons_zero, List.getD_cons_succ] at hH
            simp only [fillPuts, Act.put, List.setIfInBounds_toArray, List.set_cons_zero, List.set_cons_succ, Nat.reduceAdd]
            go_wp2_with fail
            refine ⟨rfl, rfl, by (repeat' (first | (with_reducible exact Below.refl _ _) | (with_reducible assumption) | (with_reducible refine Below.alloc ?_ ?_ _) | (with_reducible refine below_grew ?_ ?_ _) | (with_reducible refine Below.setCell ?_ ?_ _) | (with_reducible refine Below.drew ?_) | (with_reducible refine below_drewN ?_ _) | omega | (simp; done) | (simp; omega))), ?_⟩
            conv => lhs; whnf
            try rfl
          · exact fun _ => rfl
          simp only [List.nil_append, List.cons_append, Nat.reduceAdd]
          refine wpInv_det (by kernel_rfl) (by kernel_rfl) ?_
          apply Exists.intro
          refine ⟨?_, ?_, ?_⟩
          · intro U W hC hH
            have hc1 := (bcell hC).1
            have hf1 := (bcell hC).2
            simp only [HypsU, predsOf, Region.binds, List.filterMap_cons, List.filterMap_nil, if_true, List.nil_append, List.cons_append, List.getD_cons_zero, List.getD_cons_succ] at hH
            simp only [fillPuts, Act.put, List.setIfInBounds_toArray, List.set_cons_zero, List.set_cons_succ, Nat.reduceAdd]
            go_wp2_with fail
            refine ⟨rfl, rfl, by (repeat' (first | (with_reducible exact Below.refl _ _) | (with_reducible assumption) | (with_reducible refine Below.alloc ?_ ?_ _) | (with_reducible refine below_grew ?_ ?_ _) | (with_reducible refine Below.setCell ?_ ?_ _) | (with_reducible refine Below.drew ?_) | (with_reducible refine below_drewN ?_ _) | omega | (simp; done) | (simp; omega))), ?_⟩
            conv => lhs; whnf
            try rfl
          · exact fun _ => rfl
          simp only [List.nil_append, List.cons_append, Nat.reduceAdd]
          refine wpInv_det (by kernel_rfl) (by kernel_rfl) ?_
          apply Exists.intro
          refine ⟨?_, ?_, ?_⟩
          · intro U W hC hH
            have hc1 := (bcell hC).1
            have hf1 := (bcell hC).2
            simp only [HypsU, predsOf, Region.binds, List.filterMap_cons, List.filterMap_nil, if_true, List.nil_append, List.cons_append, List.getD_cons_zero, List.getD_cons_succ] at hH
            simp only [fillPuts, Act.put, List.setIfInBounds_toArray, List.set_cons_zero, List.set_cons_succ, Nat.reduceAdd]
            go_wp2_with fail
            refine ⟨rfl, rfl, by (repeat' (first | (with_reducible exact Below.refl _ _) | (with_reducible assumption) | (with_reducible refine Below.alloc ?_ ?_ _) | (with_reducible refine below_grew ?_ ?_ _) | (with_reducible refine Below.setCell ?_ ?_ _) | (with_reducible refine Below.drew ?_) | (with_reducible refine below_drewN ?_ _) | omega | (simp; done) | (simp; omega))), ?_⟩
            conv => lhs; whnf
            try rfl
          · exact fun _ => rfl
          simp only [List.nil_append, List.cons_append, Nat.reduceAdd]
          refine wpInv_det (by kernel_rfl) (by kernel_rfl) ?_
          apply Exists.intro
          refine ⟨?_, ?_, ?_⟩
          · intro U W hC hH
            have hc1 := (bcell hC).1
            have hf1 := (bcell hC).2
            simp only [HypsU, predsOf, Region.binds, List.filterMap_cons, List.filterMap_nil, if_true, List.nil_append, List.cons_append, List.getD_cons_zero, List.getD_cons_succ] at hH
            simp only [fillPuts, Act.put, List.setIfInBounds_toArray, List.set_cons_zero, List.set_cons_succ, Nat.reduceAdd]
            go_wp2_with fail
            refine ⟨rfl, rfl, by (repeat' (first | (with_reducible exact Below.refl _ _) | (with_reducible assumption) | (with_reducible refine Below.alloc ?_ ?_ _) | (with_reducible refine below_grew ?_ ?_ _) | (with_reducible refine Below.setCell ?_ ?_ _) | (with_reducible refine Below.drew ?_) | (with_reducible refine below_drewN ?_ _) | omega | (simp; done) | (simp; omega))), ?_⟩
            conv => lhs; whnf
            try rfl
          · exact fun _ => rfl
          simp only [List.nil_append, List.cons_append, Nat.reduceAdd]
          refine wpInv_det (by kernel_rfl) (by kernel_rfl) ?_
          apply Exists.intro
          refine ⟨?_, ?_, ?_⟩
          · intro U W hC hH
            have hc1 := (bcell hC).1
            have hf1 := (bcell hC).2
            simp only [HypsU, predsOf, Region.binds, List.filterMap_cons, List.filterMap_nil, if_true, List.nil_append, List.cons_append, List.getD_cons_zero, List.getD_cons_succ] at hH
            simp only [fillPuts, Act.put, List.setIfInBounds_toArray, List.set_cons_zero, List.set_cons_succ, Nat.reduceAdd]
            go_wp2_with fail
            refine ⟨rfl, rfl, by (repeat' (first | (with_reducible exact Below.refl _ _) | (with_reducible assumption) | (with_reducible refine Below.alloc ?_ ?_ _) | (with_reducible refine below_grew ?_ ?_ _) | (with_reducible refine Below.setCell ?_ ?_ _) | (with_reducible refine Below.drew ?_) | (with_reducible refine below_drewN ?_ _) | omega | (simp; done) | (simp; omega))), ?_⟩
            conv => lhs; whnf
            try rfl
          · exact fun _ => rfl
          simp only [List.nil_append, List.cons_append, Nat.reduceAdd]
          refine wpInv_det (by kernel_rfl) (by kernel_rfl) ?_
          apply Exists.intro
          refine ⟨?_, ?_, ?_⟩
          · intro U W hC hH
            have hc1 := (bcell hC).1
            have hf1 := (bcell hC).2
            simp only [HypsU, predsOf, Region.binds, List.filterMap_cons, List.filterMap_nil, if_true, List.nil_append, List.cons_append, List.getD_cons_zero, List.getD_cons_succ] at hH
            simp only [fillPuts, Act.put, List.setIfInBounds_toArray, List.set_cons_zero, List.set_cons_succ, Nat.reduceAdd]
            go_wp2_with fail
            refine ⟨rfl, rfl, by (repeat' (first | (with_reducible exact Below.refl _ _) | (with_reducible assumption) | (with_reducible refine Below.alloc ?_ ?_ _) | (with_reducible refine below_grew ?_ ?_ _) | (with_reducible refine Below.setCell ?_ ?_ _) | (with_reducible refine Below.drew ?_) | (with_reducible refine below_drewN ?_ _) | omega | (simp; done) | (simp; omega))), ?_⟩
            conv => lhs; whnf
            try rfl
          · exact fun _ => rfl
          simp only [List.nil_append, List.cons_append, Nat.reduceAdd]
          refine wpInv_det (by kernel_rfl) (by kernel_rfl) ?_
          apply Exists.intro
          refine ⟨?_, ?_, ?_⟩
          · intro U W hC hH
            have hc1 := (bcell hC).1
            have hf1 := (bcell hC).2
            simp only [HypsU, predsOf, Region.binds, List.filterMap_cons, List.filterMap_nil, if_true, List.nil_append, List.cons_append, List.getD_cons_zero, List.getD_cons_succ] at hH
            simp only [fillPuts, Act.put, List.setIfInBounds_toArray, List.set_cons_zero, List.set_cons_succ, Nat.reduceAdd]
            go_wp2_with fail
            refine ⟨rfl, rfl, by (repeat' (first | (with_reducible exact Below.refl _ _) | (with_reducible assumption) | (with_reducible refine Below.alloc ?_ ?_ _) | (with_reducible refine below_grew ?_ ?_ _) | (with_reducible refine Below.setCell ?_ ?_ _) | (with_reducible refine Below.drew ?_) | (with_reducible refine below_drewN ?_ _) | omega | (simp; done) | (simp; omega))), ?_⟩
            conv => lhs; whnf
            try rfl
          · exact fun _ => rfl
          simp only [List.nil_append, List.cons_append, Nat.reduceAdd]
          refine wpInv_det (by kernel_rfl) (by kernel_rfl) ?_
          apply Exists.intro
          refine ⟨?_, ?_, ?_⟩
          · intro U W hC hH
            have hc1 := (bcell hC).1
            have hf1 := (bcell hC).2
            simp only [HypsU, predsOf, Region.binds, List.filterMap_cons, List.filterMap_nil, if_true, List.nil_append, List.cons_append, List.getD_cons_zero, List.getD_cons_succ] at hH
            simp only [fillPuts, Act.put, List.setIfInBounds_toArray, List.set_cons_zero, List.set_cons_succ, Nat.reduceAdd]
            go_wp2_with fail
            refine ⟨rfl, rfl, by (repeat' (first | (with_reducible exact Below.refl _ _) | (with_reducible assumption) | (with_reducible refine Below.alloc ?_ ?_ _) | (with_reducible refine below_grew ?_ ?_ _) | (with_reducible refine Below.setCell ?_ ?_ _) | (with_reducible refine Below.drew ?_) | (with_reducible refine below_drewN ?_ _) | omega | (simp; done) | (simp; omega))), ?_⟩
            conv => lhs; whnf
            try rfl
          · exact fun _ => rfl
          simp only [List.nil_append, List.cons_append, Nat.reduceAdd]
          refine wpInv_det (by kernel_rfl) (by kernel_rfl) ?_
          apply Exists.intro
          refine ⟨?_, ?_, ?_⟩
          · intro U W hC hH
            have hc1 := (bcell hC).1
            have hf1 := (bcell hC).2
            simp only [HypsU, predsOf, Region.binds, List.filterMap_cons, List.filterMap_nil, if_true, List.nil_append, List.cons_append, List.getD_cons_zero, List.getD_cons_succ] at hH
            simp only [fillPuts, Act.put, List.setIfInBounds_toArray, List.set_cons_zero, List.set_cons_succ, Nat.reduceAdd]
            go_wp2_with fail
            refine ⟨rfl, rfl, by (repeat' (first | (with_reducible exact Below.refl _ _) | (with_reducible assumption) | (with_reducible refine Below.alloc ?_ ?_ _) | (with_reducible refine below_grew ?_ ?_ _) | (with_reducible refine Below.setCell ?_ ?_ _) | (with_reducible refine Below.drew ?_) | (with_reducible refine below_drewN ?_ _) | omega | (simp; done) | (simp; omega))), ?_⟩
            conv => lhs; whnf
            try rfl
          · exact fun _ => rfl
          simp only [List.nil_append, List.cons_append, Nat.reduceAdd]
          refine wpInv_det (by kernel_rfl) (by kernel_rfl) ?_
          apply Exists.intro
          refine ⟨?_, ?_, ?_⟩
          · intro U W hC hH
            have hc1 := (bcell hC).1
            have hf1 := (bcell hC).2
            simp only [HypsU, predsOf, Region.binds, List.filterMap_cons, List.filterMap_nil, if_true, List.nil_append, List.cons_append, List.getD_cons_zero, List.getD_cons_succ] at hH
            simp only [fillPuts, Act.put, List.setIfInBounds_toArray, List.set_cons_zero, List.set_cons_succ, Nat.reduceAdd]
            go_wp2_with fail
            refine ⟨rfl, rfl, by (repeat' (first | (with_reducible exact Below.refl _ _) | (with_reducible assumption) | (with_reducible refine Below.alloc ?_ ?_ _) | (with_reducible refine below_grew ?_ ?_ _) | (with_reducible refine Below.setCell ?_ ?_ _) | (with_reducible refine Below.drew ?_) | (with_reducible refine below_drewN ?_ _) | omega | (simp; done) | (simp; omega))), ?_⟩
            conv => lhs; whnf
            try rfl
          · exact fun _ => rfl
          simp only [List.nil_append, List.cons_append, Nat.reduceAdd]
          refine wpInv_det (by kernel_rfl) (by kernel_rfl) ?_
          apply Exists.intro
          refine ⟨?_, ?_, ?_⟩
          · intro U W hC hH
            have hc1 := (bcell hC).1
            have hf1 := (bcell hC).2
            simp only [HypsU, predsOf, Region.binds, List.filterMap_cons, List.filterMap_nil, if_true, List.nil_append, List.cons_append, List.getD_cons_zero, List.getD_cons_succ] at hH
            simp only [fillPuts, Act.put, List.setIfInBounds_toArray, List.set_cons_zero, List.set_cons_succ, Nat.reduceAdd]
            go_wp2_with fail
            refine ⟨rfl, rfl, by (repeat' (first | (with_reducible exact Below.refl _ _) | (with_reducible assumption) | (with_reducible refine Below.alloc ?_ ?_ _) | (with_reducible refine below_grew ?_ ?_ _) | (with_reducible refine Below.setCell ?_ ?_ _) | (with_reducible refine Below.drew ?_) | (with_reducible refine below_drewN ?_ _) | omega | (simp; done) | (simp; omega))), ?_⟩
            conv => lhs; whnf
            try rfl
          · exact fun _ => rfl
          simp only [List.nil_append, List.cons_append, Nat.reduceAdd]
          refine wpInv_det (by kernel_rfl) (by kernel_rfl) ?_
          apply Exists.intro
          refine ⟨?_, ?_, ?_⟩
          · intro U W hC hH
            have hc1 := (bcell hC).1
            have hf1 := (bcell hC).2
            simp only [HypsU, predsOf, Region.binds, List.filterMap_cons, List.filterMap_nil, if_true, List.nil_append, List.cons_append, List.getD_cons_zero, List.getD_cons_succ] at hH
            simp only [fillPuts, Act.put, List.setIfInBounds_toArray, List.set_cons_zero, List.set_cons_succ, Nat.reduceAdd]
            go_wp2_with fail
            refine ⟨rfl, rfl, by (repeat' (first | (with_reducible exact Below.refl _ _) | (with_reducible assumption) | (with_reducible refine Below.alloc ?_ ?_ _) | (with_reducible refine below_grew ?_ ?_ _) | (with_reducible refine Below.setCell ?_ ?_ _) | (with_reducible refine Below.drew ?_) | (with_reducible refine below_drewN ?_ _) | omega | (simp; done) | (simp; omega))), ?_⟩
            conv => lhs; whnf
            try rfl
          · exact fun _ => rfl
          simp only [List.nil_append, List.cons_append, Nat.reduceAdd]
          simp only [List.nil_append, List.cons_append, Nat.reduceAdd, fillPuts, Act.put, List.setIfInBounds_toArray, List.set_cons_zero, List.set_cons_succ]
          rintro U W2 hC ⟨h0, h1, h2, h3, h4, h5, h6, h7, h8, h9, h10, h11, -⟩ -
          simp only [h0, h1, h2, h3, h4, h5, h6, h7, h8, h9, h10, h11]
          clear h0 h1 h2 h3 h4 h5 h6 h7 h8 h9 h10 h11
          have HB4 := Lib.hid (HB3.out.trans (hC.mono (by omega)))
          have hb4 := (hC.block B hwB).trans HCB3.out
          have hz4 := (hC.block (B + 1) (by omega)).trans HCZ3.out
          have hr4 := (hC.block (B + 2) hwB2).trans HCR3.out
          have hs4 : B + 2 < W2.heap.size := Nat.lt_of_lt_of_le hwB2 hC.size
          have m1 := (block_facts hr4).1 (10 + c * 32 + i)
          rw [ag_get _ _ _ _ (by omega)] at m1
          have m2 := (block_facts hr4).2.1 (10 + c * 32 + i)
          have hx2 := hst (10 + c * 32 + i) (by omega) (by omega)
          rw [hx] at hx2
          rw [show wrap64 x = x from w64_id (by omega) (by omega)]
          have HX := Lib.hid hx
          have HB4' := Lib.hid hb4
          have HZ4 := Lib.hid hz4
          have HR4 := Lib.hid hr4
          clear hC r0 hx2 hx hb4 hz4 hr4
          go_wp2_with fail
          refine cut_world (fun W => Below B w W ∧ B + 2 < W.heap.size ∧ W.heap[B]? = some (.cells (ag kS 142 st) St (0, 0)) ∧ W.heap[B + 1]? = some (.cells Tryd.zeroCells124 Rt (0, 0)) ∧ W.heap[B + 2]? = some (.cells (ag kP 142 (updI g (10 + c * 32 + i) x)) Rt (0, 0))) ⟨?_, ?_, ?_, ?_, ?_⟩ ?_
          · have := HB4.out
            (repeat' (first | (with_reducible exact Below.refl _ _) | (with_reducible assumption) | (with_reducible refine Below.alloc ?_ ?_ _) | (with_reducible refine below_grew ?_ ?_ _) | (with_reducible refine Below.setCell ?_ ?_ _) | (with_reducible refine Below.drew ?_) | (with_reducible refine below_drewN ?_ _) | omega | (simp; done) | (simp; omega)))
          · simpa using hs4
          · exact (Below.heap_setCell W2 ⟨B + 1 + 1, 10 + c * 32 + i, none⟩ _ B (by simp; omega)).trans HB4'.out
          · exact (Below.heap_setCell W2 ⟨B + 1 + 1, 10 + c * 32 + i, none⟩ _ (B + 1) (by simp)).trans HZ4.out
          · have := ag_store HR4.out (10 + c * 32 + i) (by omega) x
            rw [show kP (10 + c * 32 + i) = .i64 from by unfold kP; rw [if_neg (by omega)]] at this
            exact this
          clear m1 m2 hs4 HB4 HB4' HZ4 HR4
          rintro W3 ⟨hB, hs5, hb, hz, hr⟩
          have HB5 := Lib.hid hB
          have HCB5 := Lib.hid hb
          have HCZ5 := Lib.hid hz
          have HCR5 := Lib.hid hr
          clear hB hb hz hr
          have r0 : W3.cell? ⟨B, 74 + c * 32 + i, none⟩ = some (.int .i32 (st (74 + c * 32 + i))) := by
            rw [ag_cell HCB5.out (74 + c * 32 + i) (by omega), show kS (74 + c * 32 + i) = .i32 from by unfold kS; rw [if_neg (by omega), if_pos (by omega)]]
          have hwB5 : B < W3.heap.size := by omega
          have hwB6 : B + 2 < W3.heap.size := hs5
          generalize hy : st (74 + c * 32 + i) = y at r0
          refine wp_region_inv [] (fun W => Below W3.heap.size W3 W) (fun W W' => Below W.heap.size W W') 12 (by kernel_rfl) (by kernel_rfl) (by kernel_rfl) ((Below.refl _ _).drew) (fun W W' h h' => h.trans (h'.mono h.size)) (fun _ _ h => h.size) ?_
          simp only [List.take_succ_cons, List.take_zero, List.drop_succ_cons, List.drop_zero]
          refine wpInv_det (by kernel_rfl) (by kernel_rfl) ?_
          apply Exists.intro
          refine ⟨?_, ?_, ?_⟩
          · intro U W hC hH
            have hc1 := (bcell hC).1
            have hf1 := (bcell hC).2
            simp only [HypsU, predsOf, Region.binds, List.filterMap_cons, List.filterMap_nil, if_true, List.nil_append, List.cons_append, List.getD_cons_zero, List.getD_cons_succ] at hH
            simp only [fillPuts, Act.put, List.setIfInBounds_toArray, List.set_cons_zero, List.set_cons_succ, Nat.reduceAdd]
            go_wp2_with fail
            refine ⟨rfl, rfl, by (repeat' (first | (with_reducible exact Below.refl _ _) | (with_reducible assumption) | (with_reducible refine Below.alloc ?_ ?_ _) | (with_reducible refine below_grew ?_ ?_ _) | (with_reducible refine Below.setCell ?_ ?_ _) | (with_reducible refine Below.drew ?_) | (with_reducible refine below_drewN ?_ _) | omega | (simp; done) | (simp; omega))), ?_⟩
            conv => lhs; whnf
            try rfl
          · exact fun _ => rfl
          simp only [List.nil_append, List.cons_append, Nat.reduceAdd]
          refine wpInv_det (by kernel_rfl) (by kernel_rfl) ?_
          apply Exists.intro
          refine ⟨?_, ?_, ?_⟩
          · intro U W hC hH
            have hc1 := (bcell hC).1
            have hf1 := (bcell hC).2
            simp only [HypsU, predsOf, Region.binds, List.filterMap_cons, List.filterMap_nil, if_true, List.nil_append, List.cons_append, List.getD_cons_zero, List.getD_cons_succ] at hH
            simp only [fillPuts, Act.put, List.setIfInBounds_toArray, List.set_cons_zero, List.set_cons_succ, Nat.reduceAdd]
            go_wp2_with fail
            refine ⟨rfl, rfl, by (repeat' (first | (with_reducible exact Below.refl _ _) | (with_reducible assumption) | (with_reducible refine Below.alloc ?_ ?_ _) | (with_reducible refine below_grew ?_ ?_ _) | (with_reducible refine Below.setCell ?_ ?_ _) | (with_reducible refine Below.drew ?_) | (with_reducible refine below_drewN ?_ _) | omega | (simp; done) | (simp; omega))), ?_⟩
            conv => lhs; whnf
            try rfl
          · exact fun _ => rfl
          simp only [List.nil_append, List.cons_append, Nat.reduceAdd]
          refine wpInv_det (by kernel_rfl) (by kernel_rfl) ?_
          apply Exists.intro
          refine ⟨?_, ?_, ?_⟩
          · intro U W hC hH
            have hc1 := (bcell hC).1
            have hf1 := (bcell hC).2
            simp only [HypsU, predsOf, Region.binds, List.filterMap_cons, List.filterMap_nil, if_true, List.nil_append, List.cons_append, List.getD_cons_zero, List.getD_cons_succ] at hH
            simp only [fillPuts, Act.put, List.setIfInBounds_toArray, List.set_cons_zero, List.set_cons_succ, Nat.reduceAdd]
            go_wp2_with fail
            refine ⟨rfl, rfl, by (repeat' (first | (with_reducible exact Below.refl _ _) | (with_reducible assumption) | (with_reducible refine Below.alloc ?_ ?_ _) | (with_reducible refine below_grew ?_ ?_ _) | (with_reducible refine Below.setCell ?_ ?_ _) | (with_reducible refine Below.drew ?_) | (with_reducible refine below_drewN ?_ _) | omega | (simp; done) | (simp; omega))), ?_⟩
            conv => lhs; whnf
            try rfl
          · exact fun _ => rfl
          simp only [List.nil_append, List.cons_append, Nat.reduceAdd]
          refine wpInv_det (by kernel_rfl) (by kernel_rfl) ?_
          apply Exists.intro
          refine ⟨?_, ?_, ?_⟩
          · intro U W hC hH
            have hc1 := (bcell hC).1
            have hf1 := (bcell hC).2
            simp only [HypsU, predsOf, Region.binds, List.filterMap_cons, List.filterMap_nil, if_true, List.nil_append, List.cons_append, List.getD_cons_zero, List.getD_cons_succ] at hH
            simp only [fillPuts, Act.put, List.setIfInBounds_toArray, List.set_cons_zero, List.set_cons_succ, Nat.reduceAdd]
            go_wp2_with fail
            refine ⟨rfl, rfl, by (repeat' (first | (with_reducible exact Below.refl _ _) | (with_reducible assumption) | (with_reducible refine Below.alloc ?_ ?_ _) | (with_reducible refine below_grew ?_ ?_ _) | (with_reducible refine Below.setCell ?_ ?_ _) | (with_reducible refine Below.drew ?_) | (with_reducible refine below_drewN ?_ _) | omega | (simp; done) | (simp; omega))), ?_⟩
            conv => lhs; whnf
            try rfl
          · exact fun _ => rfl
          simp only [List.nil_append, List.cons_append, Nat.reduceAdd]
          refine wpInv_det (by kernel_rfl) (by kernel_rfl) ?_
          apply Exists.intro
          refine ⟨?_, ?_, ?_⟩
          · intro U W hC hH
            have hc1 := (bcell hC).1
            have hf1 := (bcell hC).2
            simp only [HypsU, predsOf, Region.binds, List.filterMap_cons, List.filterMap_nil, if_true, List.nil_append, List.cons_append, List.getD_cons_zero, List.getD_cons_succ] at hH
            simp only [fillPuts, Act.put, List.setIfInBounds_toArray, List.set_cons_zero, List.set_cons_succ, Nat.reduceAdd]
            go_wp2_with fail
            refine ⟨rfl, rfl, by (repeat' (first | (with_reducible exact Below.refl _ _) | (with_reducible assumption) | (with_reducible refine Below.alloc ?_ ?_ _) | (with_reducible refine below_grew ?_ ?_ _) | (with_reducible refine Below.setCell ?_ ?_ _) | (with_reducible refine Below.drew ?_) | (with_reducible refine below_drewN ?_ _) | omega | (simp; done) | (simp; omega))), ?_⟩
            conv => lhs; whnf
            try rfl
          · exact fun _ => rfl
          simp only [List.nil_append, List.cons_append, Nat.reduceAdd]
          refine wpInv_det (by kernel_rfl) (by kernel_rfl) ?_
          apply Exists.intro
          refine ⟨?_, ?_, ?_⟩
          · intro U W hC hH
            have hc1 := (bcell hC).1
            have hf1 := (bcell hC).2
            simp only [HypsU, predsOf, Region.binds, List.filterMap_cons, List.filterMap_nil, if_true, List.nil_append, List.cons_append, List.getD_cons_zero, List.getD_cons_succ] at hH
            simp only [fillPuts, Act.put, List.setIfInBounds_toArray, List.set_cons_zero, List.set_cons_succ, Nat.reduceAdd]
            go_wp2_with fail
            refine ⟨rfl, rfl, by (repeat' (first | (with_reducible exact Below.refl _ _) | (with_reducible assumption) | (with_reducible refine Below.alloc ?_ ?_ _) | (with_reducible refine below_grew ?_ ?_ _) | (with_reducible refine Below.setCell ?_ ?_ _) | (with_reducible refine Below.drew ?_) | (with_reducible refine below_drewN ?_ _) | omega | (simp; done) | (simp; omega))), ?_⟩
            conv => lhs; whnf
            try rfl
          · exact fun _ => rfl
          simp only [List.nil_append, List.cons_append, Nat.reduceAdd]
          refine wpInv_det (by kernel_rfl) (by kernel_rfl) ?_
          apply Exists.intro
          refine ⟨?_, ?_, ?_⟩
          · intro U W hC hH
            have hc1 := (bcell hC).1
            have hf1 := (bcell hC).2
            simp only [HypsU, predsOf, Region.binds, List.filterMap_cons, List.filterMap_nil, if_true, List.nil_append, List.cons_append, List.getD_cons_zero, List.getD_cons_succ] at hH
            simp only [fillPuts, Act.put, List.setIfInBounds_toArray, List.set_cons_zero, List.set_cons_succ, Nat.reduceAdd]
            go_wp2_with fail
            refine ⟨rfl, rfl, by (repeat' (first | (with_reducible exact Below.refl _ _) | (with_reducible assumption) | (with_reducible refine Below.alloc ?_ ?_ _) | (with_reducible refine below_grew ?_ ?_ _) | (with_reducible refine Below.setCell ?_ ?_ _) | (with_reducible refine Below.drew ?_) | (with_reducible refine below_drewN ?_ _) | omega | (simp; done) | (simp; omega))), ?_⟩
            conv => lhs; whnf
            try rfl
          · exact fun _ => rfl
          simp only [List.nil_append, List.cons_append, Nat.reduceAdd]
          refine wpInv_det (by kernel_rfl) (by kernel_rfl) ?_
          apply Exists.intro
          refine ⟨?_, ?_, ?_⟩
          · intro U W hC hH
            have hc1 := (bcell hC).1
            have hf1 := (bcell hC).2
            simp only [HypsU, predsOf, Region.binds, List.filterMap_cons, List.filterMap_nil, if_true, List.nil_append, List.cons_append, List.getD_cons_zero, List.getD_cons_succ] at hH
            simp only [fillPuts, Act.put, List.setIfInBounds_toArray, List.set_cons_zero, List.set_cons_succ, Nat.reduceAdd]
            go_wp2_with fail
            refine ⟨rfl, rfl, by (repeat' (first | (with_reducible exact Below.refl _ _) | (with_reducible assumption) | (with_reducible refine Below.alloc ?_ ?_ _) | (with_reducible refine below_grew ?_ ?_ _) | (with_reducible refine Below.setCell ?_ ?_ _) | (with_reducible refine Below.drew ?_) | (with_reducible refine below_drewN ?_ _) | omega | (simp; done) | (simp; omega))), ?_⟩
            conv => lhs; whnf
            try rfl
          · exact fun _ => rfl
          simp only [List.nil_append, List.cons_append, Nat.reduceAdd]
          refine wpInv_det (by kernel_rfl) (by kernel_rfl) ?_
          apply Exists.intro
          refine ⟨?_, ?_, ?_⟩
          · intro U W hC hH
            have hc1 := (bcell hC).1
            have hf1 := (bcell hC).2
            simp only [HypsU, predsOf, Region.binds, List.filterMap_cons, List.filterMap_nil, if_true, List.nil_append, List.cons_append, List.getD_cons_zero, List.getD_cons_succ] at hH
            simp only [fillPuts, Act.put, List.setIfInBounds_toArray, List.set_cons_zero, List.set_cons_succ, Nat.reduceAdd]
            go_wp2_with fail
            refine ⟨rfl, rfl, by (repeat' (first | (with_reducible exact Below.refl _ _) | (with_reducible assumption) | (with_reducible refine Below.alloc ?_ ?_ _) | (with_reducible refine below_grew ?_ ?_ _) | (with_reducible refine Below.setCell ?_ ?_ _) | (with_reducible refine Below.drew ?_) | (with_reducible refine below_drewN ?_ _) | omega | (simp; done) | (simp; omega))), ?_⟩
            conv => lhs; whnf
            try rfl
          · exact fun _ => rfl
          simp only [List.nil_append, List.cons_append, Nat.reduceAdd]
          refine wpInv_det (by kernel_rfl) (by kernel_rfl) ?_
          apply Exists.intro
          refine ⟨?_, ?_, ?_⟩
          · intro U W hC hH
            have hc1 := (bcell hC).1
            have hf1 := (bcell hC).2
            simp only [HypsU, predsOf, Region.binds, List.filterMap_cons, List.filterMap_nil, if_true, List.nil_append, List.cons_append, List.getD_cons_zero, List.getD_cons_succ] at hH
            simp only [fillPuts, Act.put, List.setIfInBounds_toArray, List.set_cons_zero, List.set_cons_succ, Nat.reduceAdd]
            go_wp2_with fail
            refine ⟨rfl, rfl, by (repeat' (first | (with_reducible exact Below.refl _ _) | (with_reducible assumption) | (with_reducible refine Below.alloc ?_ ?_ _) | (with_reducible refine below_grew ?_ ?_ _) | (with_reducible refine Below.setCell ?_ ?_ _) | (with_reducible refine Below.drew ?_) | (with_reducible refine below_drewN ?_ _) | omega | (simp; done) | (simp; omega))), ?_⟩
            conv => lhs; whnf
            try rfl
          · exact fun _ => rfl
          simp only [List.nil_append, List.cons_append, Nat.reduceAdd]
          refine wpInv_det (by kernel_rfl) (by kernel_rfl) ?_
          apply Exists.intro
          refine ⟨?_, ?_, ?_⟩
          · intro U W hC hH
            have hc1 := (bcell hC).1
            have hf1 := (bcell hC).2
            simp only [HypsU, predsOf, Region.binds, List.filterMap_cons, List.filterMap_nil, if_true, List.nil_append, List.cons_append, List.getD_cons_zero, List.getD_cons_succ] at hH
            simp only [fillPuts, Act.put, List.setIfInBounds_toArray, List.set_cons_zero, List.set_cons_succ, Nat.reduceAdd]
            go_wp2_with fail
            refine ⟨rfl, rfl, by (repeat' (first | (with_reducible exact Below.refl _ _) | (with_reducible assumption) | (with_reducible refine Below.alloc ?_ ?_ _) | (with_reducible refine below_grew ?_ ?_ _) | (with_reducible refine Below.setCell ?_ ?_ _) | (with_reducible refine Below.drew ?_) | (with_reducible refine below_drewN ?_ _) | omega | (simp; done) | (simp; omega))), ?_⟩
            conv => lhs; whnf
            try rfl
          · exact fun _ => rfl
          simp only [List.nil_append, List.cons_append, Nat.reduceAdd]
          refine wpInv_det (by kernel_rfl) (by kernel_rfl) ?_
          apply Exists.intro
          refine ⟨?_, ?_, ?_⟩
          · intro U W hC hH
            have hc1 := (bcell hC).1
            have hf1 := (bcell hC).2
            simp only [HypsU, predsOf, Region.binds, List.filterMap_cons, List.filterMap_nil, if_true, List.nil_append, List.cons_append, List.getD_cons_zero, List.getD_cons_succ] at hH
            simp only [fillPuts, Act.put, List.setIfInBounds_toArray, List.set_cons_zero, List.set_cons_succ, Nat.reduceAdd]
            go_wp2_with fail
            refine ⟨rfl, rfl, by (repeat' (first | (with_reducible exact Below.refl _ _) | (with_reducible assumption) | (with_reducible refine Below.alloc ?_ ?_ _) | (with_reducible refine below_grew ?_ ?_ _) | (with_reducible refine Below.setCell ?_ ?_ _) | (with_reducible refine Below.drew ?_) | (with_reducible refine below_drewN ?_ _) | omega | (simp; done) | (simp; omega))), ?_⟩
            conv => lhs; whnf
            try rfl
          · exact fun _ => rfl
          simp only [List.nil_append, List.cons_append, Nat.reduceAdd]
          simp only [List.nil_append, List.cons_append, Nat.reduceAdd, fillPuts, Act.put, List.setIfInBounds_toArray, List.set_cons_zero, List.set_cons_succ]
          rintro U4 W4 hC ⟨h0, h1, h2, h3, h4, h5, h6, h7, h8, h9, h10, h11, -⟩ -
          simp only [h0, h1, h2, h3, h4, h5, h6, h7, h8, h9, h10, h11]
          clear h0 h1 h2 h3 h4 h5 h6 h7 h8 h9 h10 h11
          have HB4 := Lib.hid (HB5.out.trans (hC.mono (by omega)))
          have hb4 := (hC.block B hwB5).trans HCB5.out
          have hz4 := (hC.block (B + 1) (by omega)).trans HCZ5.out
          have hr4 := (hC.block (B + 2) hwB6).trans HCR5.out
          have hs4 : B + 2 < W4.heap.size := Nat.lt_of_lt_of_le hwB6 hC.size
          have m1 := (block_facts hr4).1 (74 + c * 32 + i)
          rw [ag_get _ _ _ _ (by omega)] at m1
          have m2 := (block_facts hr4).2.1 (74 + c * 32 + i)
          have hx2 := hst (74 + c * 32 + i) (by omega) (by omega)
          rw [hy] at hx2
          rw [show wrap64 y = y from w64_id (by omega) (by omega)]
          have HY := Lib.hid hy
          have HB4' := Lib.hid hb4
          have HZ4 := Lib.hid hz4
          have HR4 := Lib.hid hr4
          clear hC r0 hx2 hy hb4 hz4 hr4
          go_wp2_with fail
          go_roundw
          case rel =>
            refine ⟨i + 1, updI (updI g (10 + c * 32 + i) x) (74 + c * 32 + i) y, by omega, rfl, by have := HB4.out; (repeat' (first | (with_reducible exact Below.refl _ _) | (with_reducible assumption) | (with_reducible refine Below.alloc ?_ ?_ _) | (with_reducible refine below_grew ?_ ?_ _) | (with_reducible refine Below.setCell ?_ ?_ _) | (with_reducible refine Below.drew ?_) | (with_reducible refine below_drewN ?_ _) | omega | (simp; done) | (simp; omega))), by simpa using hs4, ?_, ?_, ?_, ?_⟩
            · exact (Below.heap_setCell W4 ⟨B + 1 + 1, 74 + c * 32 + i, none⟩ _ B (by simp; omega)).trans HB4'.out
            · exact (Below.heap_setCell W4 ⟨B + 1 + 1, 74 + c * 32 + i, none⟩ _ (B + 1) (by simp)).trans HZ4.out
            · have := ag_store HR4.out (74 + c * 32 + i) (by omega) y
              rw [show kP (74 + c * 32 + i) = .i64 from by unfold kP; rw [if_neg (by omega)]] at this
              exact this
            · intro j hj h
              unfold updI
              by_cases e1 : j = 74 + c * 32 + i
              · rw [if_pos e1, e1, HY.out]
              · rw [if_neg e1]
                by_cases e2 : j = 10 + c * 32 + i
                · rw [if_pos e2, e2, HX.out]
                · rw [if_neg e2]; exact HG.out j hj (by omega)
          case measure => simp [intOf]; omega
        · have hlt2' : ¬ (i : Int) < 32 := by omega
          obtain rfl : i = 32 := by omega
          go_wp2_with fail
          go_roundw
          case rel => exact ⟨c + 1, g, by omega, rfl, HB3.out, hs2, HCB3.out, HCZ3.out, HCR3.out, fun j hj h => HG.out j hj (by omega)⟩
          case measure => simp [intOf]; omega
    · have hlt' : ¬ (c : Int) < 2 := by omega
      obtain rfl : c = 2 := by omega
      have hall := ag_ext kP 142 f st (fun j hj => HF.out j hj (by omega))
      have hcr := HCR.out
      rw [hall] at hcr
      have HCR2 := Lib.hid hcr
      clear hcr hall
      go_wp2_with (first | (refine wpList_load_row rfl Rt _ rfl (B + 2) rfl _ (ag kP 142 st) (0, 0) _ HCR2.out Tryd.underlying124 rfl ?hin ?_; (case hin => exact infoR_ag st)) | (refine wpList_store_mid rfl Rt _ _ rfl (B + 1) 0 (ag kP 142 st) rfl rfl ?hth ?hin ?hon ?_; (case hth => exact there42 HCZ.out _); (case hin => exact infoR_ag st); (case hon => exact ag_one kP 142 st)))
      have hfin : Below B w (wr.setCells (B + 1) 0 (ag kP 142 st).toList) := below_cells HB.out (by omega) _
      have q1 := cells_all HCZ.out (N := 142) zero42_size (cs := ag kP 142 st) (ag_size _ _ _)
      refine bodyPost_ret (v := .agg (ag kP 142 st)) ?_ rfl ⟨by rfl, ?_⟩
      · exact results_cell_row rfl _ _ (B + 1) _ _ _ _ rfl q1 Tryd.underlying124 rfl (infoR_ag _)
      · rw [HBd.out]; exact hfin
end Go.Proofs.YtcibajleknhklaaDoor
end

section
namespace Go.Proofs.YtcibajleknhklaaDoor
open Go.RowKit Go.BigFrame Go.Proofs.YtcibajleknhklaaDoorW.PrintWords Go.Proofs.YtcibajleknhklaaDoorW.PrintLast Go.Proofs.YtcibajleknhklaaDoorW.PrintMore
open PStateTells RStateTells
set_option linter.unusedSimpArgs false
set_option linter.unusedVariables false
theorem kP_i' (j : Nat) (h : j ≠ 140) : kP j = .i64 := by unfold kP; rw [if_neg h]
theorem refN26 (s : Int) (hs : 0 ≤ s ∧ s ≤ 2) : spinetref05_N.f s = some ((nOf s : Nat) : Int) := by
  rcases (show s = 0 ∨ s = 1 ∨ s = 2 by omega) with h | h | h <;> subst h <;> rfl
theorem refBands26 (s : Int) (hs : 0 ≤ s ∧ s ≤ 2) : spinetref05_Bands.f s = some ((nbOf s : Nat) : Int) := by
  rcases (show s = 0 ∨ s = 1 ∨ s = 2 by omega) with h | h | h <;> subst h <;> decide +kernel
/-- The frame: the state alone. -/
structure L1 (w : World) (B : Nat) (f : Nat → Int) (W : World) : Prop where
  below : Below B w W
  st : Bx B Rt kP 142 f W
theorem L1.keep {w B f} {W W' : World} (h : L1 w B f W) (hb : Below W.heap.size W W') : L1 w B f W' := by
  have hs := (block_facts h.st).2.2
  exact ⟨h.below.trans (hb.mono (by omega)), (hb.block _ (by omega)).trans h.st⟩
theorem L1.lt {w B f} {W : World} (h : L1 w B f W) : B < W.heap.size := (block_facts h.st).2.2
set_option maxHeartbeats 8000000 in
set_option maxRecDepth 100000 in
theorem refRight_any (st : Nat → Int) (s : Int) (c : Nat) (hs : 0 ≤ s ∧ s ≤ 2) (hc : 1 ≤ c ∧ c ≤ 2) (w : World) (q : Bool) (hq : q = true ↔ RStOk (nOf s) (nbOf s) c st) :
    Calls Tryd.prog 56 #[.agg (ag kP 142 st), .int .i64 s, .int .i64 c] w fun e w' => e = .returned (.bool q) ∧ Below w.heap.size w w' := by
  have hN := Lib.hid (fun w => spinetref05_N.calls s _ w (refN26 s hs))
  have hBn := Lib.hid (fun w => spinetref05_Bands.calls s _ w (refBands26 s hs))
  have hn32 : 8 ≤ nOf s ∧ nOf s ≤ 32 := by have := nOf_len s; unfold Len at this; omega
  have hnb5 : 3 ≤ nbOf s ∧ nbOf s ≤ 5 := by unfold nbOf; omega
  obtain ⟨n, hn⟩ : ∃ n, nOf s = n := ⟨_, rfl⟩
  obtain ⟨nb, hnb⟩ : ∃ nb, nbOf s = nb := ⟨_, rfl⟩
  rw [hn] at hN hn32 hq
  rw [hnb] at hBn hnb5 hq
  have HQ := Lib.hid hq
  have e141 : (ag kP 142 st)[141]? = some (.int .i64 (st 141)) := ag_get _ _ _ _ (by decide)
  generalize hlo : st 141 = lo at e141
  have HLO := Lib.hid hlo
  clear hn hnb hq hlo
  by_cases hlo0 : lo < 0
  · go_enter Tryd.func56, Tryd.ntmps56
    go_wp2_with fail
    go_ret
    exact ⟨ret_bool (by
      cases q with
      | false => rfl
      | true => have h2 := (HQ.out.1 rfl).1; rw [HLO.out] at h2; omega), by (repeat' (first | (with_reducible exact Below.refl _ _) | (with_reducible assumption) | (with_reducible refine Below.alloc ?_ ?_ _) | (with_reducible refine below_grew ?_ ?_ _) | (with_reducible refine Below.setCell ?_ ?_ _) | (with_reducible refine Below.drew ?_) | (with_reducible refine below_drewN ?_ _) | omega | (simp; done) | (simp; omega)))⟩
  by_cases hlo1 : lo > 1000
  · go_enter Tryd.func56, Tryd.ntmps56
    go_wp2_with fail
    go_ret
    exact ⟨ret_bool (by
      cases q with
      | false => rfl
      | true => have h2 := (HQ.out.1 rfl).1; rw [HLO.out] at h2; omega), by (repeat' (first | (with_reducible exact Below.refl _ _) | (with_reducible assumption) | (with_reducible refine Below.alloc ?_ ?_ _) | (with_reducible refine below_grew ?_ ?_ _) | (with_reducible refine Below.setCell ?_ ?_ _) | (with_reducible refine Below.drew ?_) | (with_reducible refine below_drewN ?_ _) | omega | (simp; done) | (simp; omega)))⟩
  go_enter Tryd.func56, Tryd.ntmps56
  go_upto_region 3 with fail
  refine cut_world (fun V => L1 w w.heap.size st V) ⟨by (repeat' (first | (with_reducible exact Below.refl _ _) | (with_reducible assumption) | (with_reducible refine Below.alloc ?_ ?_ _) | (with_reducible refine below_grew ?_ ?_ _) | (with_reducible refine Below.setCell ?_ ?_ _) | (with_reducible refine Below.drew ?_) | (with_reducible refine below_drewN ?_ _) | omega | (simp; done) | (simp; omega))), alloc_at _ _⟩ ?_
  intro V hV
  generalize hBd : w.heap.size = B at *
  have HBd := Lib.hid hBd
  have HV := Lib.hid hV
  clear hBd hV e141
  go_wp2_with fail
  go_loopw [7] (fun cnt wr => ∃ k : Nat, k ≤ 2 ∧ cnt = .int .i64 k ∧ L1 w B st wr ∧ ∀ ch, ch < k → RChOk n nb c st ch) (fun cnt _ => 2 - (intOf cnt).toNat)
  case atStart => exact ⟨0, by omega, rfl, HV.out, fun ch h => by omega⟩
  case round =>
    obtain ⟨k, hk, rfl, hL, hall⟩ := hrel
    have HL := Lib.hid hL
    have HALL := Lib.hid hall
    clear hL hall
    by_cases hlt : k < 2
    · have hlt' : (k : Int) < 2 := by omega
      have hk0 : (0 : Int) ≤ k := by omega
      go_wp2_with fail
      go_loopw [8] (fun cnt wr => ∃ i : Nat, i ≤ 5 ∧ cnt = .int .i64 i ∧ L1 w B st wr ∧ ∀ b, b < i → okE (st (k * 5 + b)) ∧ (c ≤ k ∨ nb ≤ b → st (k * 5 + b) = 0)) (fun cnt _ => 5 - (intOf cnt).toNat)
      case atStart => exact ⟨0, by omega, rfl, HL.out, fun b h => by omega⟩
      case round =>
        obtain ⟨i, hi, rfl, hL, hE⟩ := hrel
        have HL2 := Lib.hid hL
        have HE2 := Lib.hid hE
        clear hL hE
        by_cases hlt2 : i < 5
        · have hlt2' : (i : Int) < 5 := by omega
          have hi0 : (0 : Int) ≤ i := by omega
          have r0 := ag_cell HL2.out.st (k * 5 + i) (by omega)
          rw [kP_i' _ (by omega)] at r0
          generalize hy : st (k * 5 + i) = y at r0
          have HY := Lib.hid hy
          clear hy
          by_cases hy0 : y < 0
          · go_wp2_with fail
            go_ret
            exact ⟨ret_bool (by
              cases q with
              | false => rfl
              | true => have h2 := ((HQ.out.1 rfl).2 k hlt).1 i hlt2; rw [HY.out] at h2; unfold okE at h2; omega), by rw [HBd.out]; exact HL2.out.below⟩
          by_cases hy1 : y > 31
          · go_wp2_with fail
            go_ret
            exact ⟨ret_bool (by
              cases q with
              | false => rfl
              | true => have h2 := ((HQ.out.1 rfl).2 k hlt).1 i hlt2; rw [HY.out] at h2; unfold okE at h2; omega), by rw [HBd.out]; exact HL2.out.below⟩
          by_cases hA : c ≤ k
          · have hA' : (k : Int) ≥ c := by omega
            by_cases hz : y = 0
            · subst hz
              · go_wp2_with fail
                go_roundw
                case rel =>
                  refine ⟨i + 1, by omega, rfl, HL2.out, fun b hb => ?_⟩
                  by_cases e : b = i
                  · rw [e]; rw [HY.out]; exact ⟨okE_zero, fun _ => rfl⟩
                  · exact HE2.out b (by omega)
                case measure => simp [intOf]; omega
            · go_wp2_with fail
              go_ret
              exact ⟨ret_bool (by
                cases q with
                | false => rfl
                | true => have h2 := ((HQ.out.1 rfl).2 k hlt).1 i hlt2; rw [HY.out] at h2; exact absurd (h2.2 (.inl hA)) hz), by rw [HBd.out]; exact HL2.out.below⟩
          have hA' : ¬ ((k : Int) ≥ c) := by omega
          by_cases hB : nb ≤ i
          · have hB' : (i : Int) ≥ nb := by omega
            by_cases hz : y = 0
            · subst hz
              · go_wp2_with (go_at_call 95; refine (hBn.out _).mono ?_; rintro e wb ⟨rfl, hdb⟩; have HDB := Lib.hid hdb.below; clear hdb)
                go_roundw
                case rel =>
                  refine ⟨i + 1, by omega, rfl, HL2.out.keep HDB.out, fun b hb => ?_⟩
                  by_cases e : b = i
                  · rw [e]; rw [HY.out]; exact ⟨okE_zero, fun _ => rfl⟩
                  · exact HE2.out b (by omega)
                case measure => simp [intOf]; omega
            · go_wp2_with (go_at_call 95; refine (hBn.out _).mono ?_; rintro e wb ⟨rfl, hdb⟩; have HDB := Lib.hid hdb.below; clear hdb)
              go_ret
              exact ⟨ret_bool (by
                cases q with
                | false => rfl
                | true => have h2 := ((HQ.out.1 rfl).2 k hlt).1 i hlt2; rw [HY.out] at h2; exact absurd (h2.2 (.inr hB)) hz), by rw [HBd.out]; exact (HL2.out.keep HDB.out).below⟩
          have hB' : ¬ ((i : Int) ≥ nb) := by omega
          · go_wp2_with (go_at_call 95; refine (hBn.out _).mono ?_; rintro e wb ⟨rfl, hdb⟩; have HDB := Lib.hid hdb.below; clear hdb)
            go_roundw
            case rel =>
              refine ⟨i + 1, by omega, rfl, HL2.out.keep HDB.out, fun b hb => ?_⟩
              by_cases e : b = i
              · rw [e]; rw [HY.out]; exact ⟨by unfold okE; omega, fun h => by omega⟩
              · exact HE2.out b (by omega)
            case measure => simp [intOf]; omega
        · have hlt2' : ¬ (i : Int) < 5 := by omega
          obtain rfl : i = 5 := by omega
          go_wp2_with fail
          go_loopw [10] (fun cnt wr => ∃ i : Nat, i ≤ 32 ∧ cnt = .int .i64 i ∧ L1 w B st wr ∧ ∀ b, b < i → sat24 (st (74 + k * 32 + b)) = st (74 + k * 32 + b) ∧ (c ≤ k ∨ n ≤ b → st (74 + k * 32 + b) = 0 ∧ st (10 + k * 32 + b) = 0)) (fun cnt _ => 32 - (intOf cnt).toNat)
          case atStart => exact ⟨0, by omega, rfl, HL2.out, fun b h => by omega⟩
          case round =>
            obtain ⟨i, hi3, rfl, hL, hH⟩ := hrel
            have HL3 := Lib.hid hL
            have HH3 := Lib.hid hH
            have hwB : B < wr.heap.size := hL.lt
            clear hL hH
            by_cases hlt3 : i < 32
            · have hlt3' : (i : Int) < 32 := by omega
              have hi0 : (0 : Int) ≤ i := by omega
              have r0 := ag_cell HL3.out.st (74 + k * 32 + i) (by omega)
              rw [kP_i' _ (by omega)] at r0
              generalize hy : st (74 + k * 32 + i) = y at r0
              have HY := Lib.hid hy
              obtain ⟨t, ht⟩ : ∃ t, st (10 + k * 32 + i) = t := ⟨_, rfl⟩
              have HT := Lib.hid ht
              obtain ⟨u, hu⟩ : ∃ u, sat24 y = u := ⟨_, rfl⟩
              have hsat := Lib.hid (fun w => spinetref01_Sat.calls 40 y 24 _ w (refSat24 y))
              rw [hu] at hsat
              have HU := Lib.hid hu
              clear hy ht hu
              by_cases he : y = u
              rotate_left
              · have hb1 : (y == u) = false := by simpa using he
                have hb2 : (y != u) = true := by simpa using he
                have HEq2 := Lib.hid he
                clear he
                go_wp2_with (go_at_call 96; refine (hsat.out _).mono ?_; rintro e ws ⟨rfl, hds⟩; have HLS := Lib.hid (HL3.out.keep hds.below); have t0 := ag_cell HLS.out.st (10 + k * 32 + i) (by omega); rw [kP_i' _ (by omega), HT.out] at t0; clear hds)
                go_ret
                exact ⟨ret_bool (by
                  cases q with
                  | false => rfl
                  | true => have h2 := ((HQ.out.1 rfl).2 k hlt).2.1 i hlt3; rw [HY.out, HU.out, HT.out] at h2; exact absurd h2.1.symm HEq2.out), by rw [HBd.out]; exact HLS.out.below⟩
              have hb1 : (y == u) = true := by simpa using he
              have hb2 : (y != u) = false := by simpa using he
              have HEq2 := Lib.hid he
              clear he
              by_cases hA : c ≤ k
              · have hA' : (k : Int) ≥ c := by omega
                by_cases hz : y = 0
                · have hz1 : (y == 0) = true := by simpa using hz
                  have hz2 : (y != 0) = false := by simpa using hz
                  have HZ := Lib.hid hz
                  clear hz
                  by_cases hv : t = 0
                  · have hv1 : (t == 0) = true := by simpa using hv
                    have hv2 : (t != 0) = false := by simpa using hv
                    have HVV := Lib.hid hv
                    clear hv
                    · go_wp2_with (go_at_call 96; refine (hsat.out _).mono ?_; rintro e ws ⟨rfl, hds⟩; have HLS := Lib.hid (HL3.out.keep hds.below); have t0 := ag_cell HLS.out.st (10 + k * 32 + i) (by omega); rw [kP_i' _ (by omega), HT.out] at t0; clear hds)
                      go_roundw
                      case rel =>
                        refine ⟨i + 1, by omega, rfl, HLS.out, fun b hb => ?_⟩
                        by_cases e : b = i
                        · rw [e]; rw [HY.out, HU.out, HT.out, HEq2.out]; exact ⟨rfl, fun _ => ⟨by rw [← HEq2.out]; exact HZ.out, HVV.out⟩⟩
                        · exact HH3.out b (by omega)
                      case measure => simp [intOf]; omega
                  · have hv1 : (t == 0) = false := by simpa using hv
                    have hv2 : (t != 0) = true := by simpa using hv
                    have HVV := Lib.hid hv
                    clear hv
                    · go_wp2_with (go_at_call 96; refine (hsat.out _).mono ?_; rintro e ws ⟨rfl, hds⟩; have HLS := Lib.hid (HL3.out.keep hds.below); have t0 := ag_cell HLS.out.st (10 + k * 32 + i) (by omega); rw [kP_i' _ (by omega), HT.out] at t0; clear hds)
                      go_ret
                      exact ⟨ret_bool (by
                        cases q with
                        | false => rfl
                        | true => have h2 := ((HQ.out.1 rfl).2 k hlt).2.1 i hlt3; rw [HY.out, HU.out, HT.out] at h2; exact absurd (h2.2 (.inl hA)).2 HVV.out), by rw [HBd.out]; exact (HLS.out).below⟩
                · have hz1 : (y == 0) = false := by simpa using hz
                  have hz2 : (y != 0) = true := by simpa using hz
                  have HZ := Lib.hid hz
                  clear hz
                  · go_wp2_with (go_at_call 96; refine (hsat.out _).mono ?_; rintro e ws ⟨rfl, hds⟩; have HLS := Lib.hid (HL3.out.keep hds.below); have t0 := ag_cell HLS.out.st (10 + k * 32 + i) (by omega); rw [kP_i' _ (by omega), HT.out] at t0; clear hds)
                    go_ret
                    exact ⟨ret_bool (by
                      cases q with
                      | false => rfl
                      | true => have h2 := ((HQ.out.1 rfl).2 k hlt).2.1 i hlt3; rw [HY.out, HU.out, HT.out] at h2; exact absurd (h2.2 (.inl hA)).1 HZ.out), by rw [HBd.out]; exact (HLS.out).below⟩
              have hA' : ¬ ((k : Int) ≥ c) := by omega
              by_cases hB : n ≤ i
              · have hB' : (i : Int) ≥ n := by omega
                by_cases hz : y = 0
                · have hz1 : (y == 0) = true := by simpa using hz
                  have hz2 : (y != 0) = false := by simpa using hz
                  have HZ := Lib.hid hz
                  clear hz
                  by_cases hv : t = 0
                  · have hv1 : (t == 0) = true := by simpa using hv
                    have hv2 : (t != 0) = false := by simpa using hv
                    have HVV := Lib.hid hv
                    clear hv
                    · go_wp2_with (first | (go_at_call 96; refine (hsat.out _).mono ?_; rintro e ws ⟨rfl, hds⟩; have HLS := Lib.hid (HL3.out.keep hds.below); have t0 := ag_cell HLS.out.st (10 + k * 32 + i) (by omega); rw [kP_i' _ (by omega), HT.out] at t0; clear hds) | (go_at_call 97; refine (hN.out _).mono ?_; rintro e wb ⟨rfl, hdb⟩; have HDB := Lib.hid (HLS.out.keep hdb.below); have t1 := ag_cell HDB.out.st (10 + k * 32 + i) (by omega); rw [kP_i' _ (by omega), HT.out] at t1; clear hdb))
                      go_roundw
                      case rel =>
                        refine ⟨i + 1, by omega, rfl, HDB.out, fun b hb => ?_⟩
                        by_cases e : b = i
                        · rw [e]; rw [HY.out, HU.out, HT.out, HEq2.out]; exact ⟨rfl, fun _ => ⟨by rw [← HEq2.out]; exact HZ.out, HVV.out⟩⟩
                        · exact HH3.out b (by omega)
                      case measure => simp [intOf]; omega
                  · have hv1 : (t == 0) = false := by simpa using hv
                    have hv2 : (t != 0) = true := by simpa using hv
                    have HVV := Lib.hid hv
                    clear hv
                    · go_wp2_with (first | (go_at_call 96; refine (hsat.out _).mono ?_; rintro e ws ⟨rfl, hds⟩; have HLS := Lib.hid (HL3.out.keep hds.below); have t0 := ag_cell HLS.out.st (10 + k * 32 + i) (by omega); rw [kP_i' _ (by omega), HT.out] at t0; clear hds) | (go_at_call 97; refine (hN.out _).mono ?_; rintro e wb ⟨rfl, hdb⟩; have HDB := Lib.hid (HLS.out.keep hdb.below); have t1 := ag_cell HDB.out.st (10 + k * 32 + i) (by omega); rw [kP_i' _ (by omega), HT.out] at t1; clear hdb))
                      go_ret
                      exact ⟨ret_bool (by
                        cases q with
                        | false => rfl
                        | true => have h2 := ((HQ.out.1 rfl).2 k hlt).2.1 i hlt3; rw [HY.out, HU.out, HT.out] at h2; exact absurd (h2.2 (.inr hB)).2 HVV.out), by rw [HBd.out]; exact (HDB.out).below⟩
                · have hz1 : (y == 0) = false := by simpa using hz
                  have hz2 : (y != 0) = true := by simpa using hz
                  have HZ := Lib.hid hz
                  clear hz
                  · go_wp2_with (first | (go_at_call 96; refine (hsat.out _).mono ?_; rintro e ws ⟨rfl, hds⟩; have HLS := Lib.hid (HL3.out.keep hds.below); have t0 := ag_cell HLS.out.st (10 + k * 32 + i) (by omega); rw [kP_i' _ (by omega), HT.out] at t0; clear hds) | (go_at_call 97; refine (hN.out _).mono ?_; rintro e wb ⟨rfl, hdb⟩; have HDB := Lib.hid (HLS.out.keep hdb.below); have t1 := ag_cell HDB.out.st (10 + k * 32 + i) (by omega); rw [kP_i' _ (by omega), HT.out] at t1; clear hdb))
                    go_ret
                    exact ⟨ret_bool (by
                      cases q with
                      | false => rfl
                      | true => have h2 := ((HQ.out.1 rfl).2 k hlt).2.1 i hlt3; rw [HY.out, HU.out, HT.out] at h2; exact absurd (h2.2 (.inr hB)).1 HZ.out), by rw [HBd.out]; exact (HDB.out).below⟩
              have hB' : ¬ ((i : Int) ≥ n) := by omega
              · go_wp2_with (first | (go_at_call 96; refine (hsat.out _).mono ?_; rintro e ws ⟨rfl, hds⟩; have HLS := Lib.hid (HL3.out.keep hds.below); have t0 := ag_cell HLS.out.st (10 + k * 32 + i) (by omega); rw [kP_i' _ (by omega), HT.out] at t0; clear hds) | (go_at_call 97; refine (hN.out _).mono ?_; rintro e wb ⟨rfl, hdb⟩; have HDB := Lib.hid hdb.below; clear hdb))
                go_roundw
                case rel =>
                  refine ⟨i + 1, by omega, rfl, HLS.out.keep HDB.out, fun b hb => ?_⟩
                  by_cases e : b = i
                  · rw [e]; rw [HY.out, HU.out, HT.out, HEq2.out]; exact ⟨rfl, fun h => by omega⟩
                  · exact HH3.out b (by omega)
                case measure => simp [intOf]; omega
            · have hlt3' : ¬ (i : Int) < 32 := by omega
              obtain rfl : i = 32 := by omega
              have r0 := ag_cell HL3.out.st (138 + k) (by omega)
              rw [kP_i' _ (by omega)] at r0
              generalize hy : st (138 + k) = y at r0
              have HY := Lib.hid hy
              obtain ⟨u, hu⟩ : ∃ u, sat28 y = u := ⟨_, rfl⟩
              have hsat := Lib.hid (fun w => spinetref01_Sat.calls 40 y 28 _ w (refSat28 y))
              rw [hu] at hsat
              have hsat := Lib.hid (show ∀ w, Calls Tryd.prog 96 #[.int .i64 y, .int .i64 28] w fun e w' => e = .returned (.int .i64 u) ∧ Below w.heap.size w w' from fun w => (hsat.out w).mono (fun _ _ h => ⟨h.1, h.2.below⟩))
              have HU := Lib.hid hu
              clear hy hu
              by_cases he : y = u
              · have hb1 : (y == u) = true := by simpa using he
                have hb2 : (y != u) = false := by simpa using he
                have HEq2 := Lib.hid he
                clear he
                by_cases hA : c ≤ k
                · have hA' : (k : Int) ≥ c := by omega
                  by_cases hz : y = 0
                  · have hz1 : (y == 0) = true := by simpa using hz
                    have hz2 : (y != 0) = false := by simpa using hz
                    have HZ := Lib.hid hz
                    clear hz
                    go_wp2_with fail
                    first | refine wp_region_grew_all2 (by kernel_rfl) (by kernel_rfl) ?_ | refine wp_region_grew_all (by kernel_rfl) (by kernel_rfl) ?_
                    repeat (go_big_quiet_step ((go_at_call 96; exact Calls.grew_of (hsat.out _))))
                    refine wpQuiet_nil ?_
                    rintro _ ⟨x, rfl⟩
                    have hC : Below wr.heap.size wr (wr.grew x) := below_grew (Below.refl _ _) (Nat.le_refl _) _
                    have HC := Lib.hid hC
                    clear hC
                    go_wp2_with fail
                    go_roundw
                    case rel =>
                      refine ⟨k + 1, by omega, rfl, HL3.out.keep HC.out, fun ch hch => ?_⟩
                      by_cases e : ch = k
                      · rw [e]
                        exact ⟨HE2.out, HH3.out, by rw [HY.out, HU.out, HEq2.out], fun _ => by rw [HY.out]; exact HZ.out⟩
                      · exact HALL.out ch (by omega)
                    case measure => simp [intOf]; omega
                  · have hz1 : (y == 0) = false := by simpa using hz
                    have hz2 : (y != 0) = true := by simpa using hz
                    have HZ := Lib.hid hz
                    clear hz
                    go_wp2_with fail
                    first | refine wp_region_grew_all2 (by kernel_rfl) (by kernel_rfl) ?_ | refine wp_region_grew_all (by kernel_rfl) (by kernel_rfl) ?_
                    repeat (go_big_quiet_step ((go_at_call 96; exact Calls.grew_of (hsat.out _))))
                    refine wpQuiet_nil ?_
                    rintro _ ⟨x, rfl⟩
                    have hC : Below wr.heap.size wr (wr.grew x) := below_grew (Below.refl _ _) (Nat.le_refl _) _
                    have HC := Lib.hid hC
                    clear hC
                    go_wp2_with fail
                    go_ret
                    exact ⟨ret_bool (by
                      cases q with
                      | false => rfl
                      | true => have h2 := ((HQ.out.1 rfl).2 k hlt).2.2; rw [HY.out, HU.out] at h2; exact absurd (h2.2 hA) HZ.out), by rw [HBd.out]; exact (HL3.out.keep HC.out).below⟩
                · have hA' : ¬ ((k : Int) ≥ c) := by omega
                  go_wp2_with fail
                  first | refine wp_region_grew_all2 (by kernel_rfl) (by kernel_rfl) ?_ | refine wp_region_grew_all (by kernel_rfl) (by kernel_rfl) ?_
                  repeat (go_big_quiet_step ((go_at_call 96; exact Calls.grew_of (hsat.out _))))
                  refine wpQuiet_nil ?_
                  rintro _ ⟨x, rfl⟩
                  have hC : Below wr.heap.size wr (wr.grew x) := below_grew (Below.refl _ _) (Nat.le_refl _) _
                  have HC := Lib.hid hC
                  clear hC
                  go_wp2_with fail
                  go_roundw
                  case rel =>
                    refine ⟨k + 1, by omega, rfl, HL3.out.keep HC.out, fun ch hch => ?_⟩
                    by_cases e : ch = k
                    · rw [e]
                      exact ⟨HE2.out, HH3.out, by rw [HY.out, HU.out, HEq2.out], fun h => absurd h hA⟩
                    · exact HALL.out ch (by omega)
                  case measure => simp [intOf]; omega
              · have hb1 : (y == u) = false := by simpa using he
                have hb2 : (y != u) = true := by simpa using he
                have HEq2 := Lib.hid he
                clear he
                go_wp2_with fail
                first | refine wp_region_grew_all2 (by kernel_rfl) (by kernel_rfl) ?_ | refine wp_region_grew_all (by kernel_rfl) (by kernel_rfl) ?_
                repeat (go_big_quiet_step ((go_at_call 96; exact Calls.grew_of (hsat.out _))))
                refine wpQuiet_nil ?_
                rintro _ ⟨x, rfl⟩
                have hC : Below wr.heap.size wr (wr.grew x) := below_grew (Below.refl _ _) (Nat.le_refl _) _
                have HC := Lib.hid hC
                clear hC
                go_wp2_with fail
                go_ret
                exact ⟨ret_bool (by
                  cases q with
                  | false => rfl
                  | true => have h2 := ((HQ.out.1 rfl).2 k hlt).2.2; rw [HY.out, HU.out] at h2; exact absurd h2.1.symm HEq2.out), by rw [HBd.out]; exact (HL3.out.keep HC.out).below⟩
    · have hlt' : ¬ (k : Int) < 2 := by omega
      obtain rfl : k = 2 := by omega
      go_wp2_with fail
      go_ret
      exact ⟨ret_bool (HQ.out.2 ⟨by rw [HLO.out]; omega, HALL.out⟩).symm, by rw [HBd.out]; exact HL.out.below⟩
end Go.Proofs.YtcibajleknhklaaDoor
end

section
namespace Go.Proofs.YtcibajleknhklaaDoor
open Go.RowKit Go.BigFrame Go.Proofs.YtcibajleknhklaaDoorW.PrintWords Go.Proofs.YtcibajleknhklaaDoorW.PrintLast Go.Proofs.YtcibajleknhklaaDoorW.PrintMore
open PStateTells RStateTells
set_option linter.unusedSimpArgs false
set_option linter.unusedVariables false
set_option maxHeartbeats 4000000 in
set_option maxRecDepth 100000 in
theorem awake26 (w : World) (hT : FadeW w) : Calls Tryd.prog 46 #[] w fun e w' => e = .returned (.bool true) ∧ Below w.heap.size w w' := by
  have hl : ∀ w, FadeW w → Calls Tryd.prog 49 #[.agg (ag kS 142 (fun _ => 0)), .agg #[.int .i64 0, .int .i64 1]] w fun e w' => ∃ v, e = .returned (.tuple #[.agg (ag kS 142 (loseF 0 1 (fun _ => 0))), v]) ∧
      Kd.R (Kd.int .i16) 108 w' w.heap.size (fun _ => True) v (mixF (soundsF 0 (fun _ => 0) 1) (nOf 0)) ∧ Below w.heap.size w w' := fun w hT => lose_any (fun _ => 0) 0 1 (by decide) (by decide) (fun _ _ => by decide) w hT
  have HT := Lib.hid hT
  have a1 : loseF 0 1 (fun _ => 0) 140 = 1013904223 := by decide +kernel
  have a2 : loseF 0 1 (fun _ => 0) 141 = 1 := by decide +kernel
  obtain ⟨f, hf⟩ : ∃ f, loseF 0 1 (fun _ => 0) = f := ⟨_, rfl⟩
  have hm : mixF (soundsF 0 (fun _ => 0) 1) (nOf 0) = [0, 0, 0, 0, 0, 0, 0, 0] := by decide +kernel
  rw [hf] at a1 a2 hl
  rw [hm] at hl
  have hl := Lib.hid hl
  clear hT hm hf
  go_enter Tryd.func46, Tryd.ntmps46
  go_wp2_with (refine build_to rfl St _ rfl (ag kS 142 (fun _ => 0)) (by kernel_rfl) ?_)
  refine (hl.out w HT.out).mono ?_
  rintro e w1 ⟨v, rfl, hv, hb⟩
  obtain ⟨A, c, rfl, hcv, hCv⟩ := Kd.R_reads hv
  obtain ⟨ad, rfl, hc5⟩ := Kd.at_int hCv 5 (by decide) (by decide)
  have hlt := World.block_lt_of_cell? w1 _ hc5
  have e5 : rd [0, 0, 0, 0, 0, 0, 0, 0] 5 = 0 := by decide
  rw [e5, show Int.toNat 5 = 5 from rfl] at hc5
  have HB := Lib.hid hb
  clear hl hv hCv hb e5
  go_wp2_with (refine wpList_store_mid rfl St _ _ rfl w1.heap.size 0 (ag kS 142 f) rfl rfl ?hth ?hin ?hon ?_; (case hth => exact there_row (alloc_at _ _) _ (zeroS_le _)); (case hin => exact infoS_ag _); (case hon => exact ag_one kS 142 _); have q1 := cells_all (alloc_at w1 (.cells Tryd.zeroCells97 St (0, 0))) (N := 142) zeroS_size (cs := ag kS 142 f) (ag_size _ _ _); have ho := only_setCells (w1.alloc (.cells Tryd.zeroCells97 St (0, 0))) w1.heap.size 0 (ag kS 142 f).toList; have hbb : Below w1.heap.size w1 ((w1.alloc (.cells Tryd.zeroCells97 St (0, 0))).setCells w1.heap.size 0 (ag kS 142 f).toList) := ho.below (by (repeat' (first | (with_reducible exact Below.refl _ _) | (with_reducible assumption) | (with_reducible refine Below.alloc ?_ ?_ _) | (with_reducible refine below_grew ?_ ?_ _) | (with_reducible refine Below.setCell ?_ ?_ _) | (with_reducible refine Below.drew ?_) | (with_reducible refine below_drewN ?_ _) | omega | (simp; done) | (simp; omega)))) (Nat.le_refl _); generalize World.setCells (w1.alloc (.cells Tryd.zeroCells97 St (0, 0))) w1.heap.size 0 (ag kS 142 f).toList = w2 at *; have d1 := ag_cell q1 140 (by decide); have d2 := ag_cell q1 141 (by decide); rw [a1, show kS 140 = .u32 from rfl] at d1; rw [a2, show kS 141 = .i64 from rfl] at d2; have d3 : w2.cell? (ad.add 5) = some (.int .i16 0) := (hbb.cell hlt).trans hc5; unfold Addr.add at d3; rw [if_neg (by decide)] at d3; have HBB := Lib.hid hbb; clear q1 ho hbb hc5)
  go_ret
  exact ⟨by rfl, HB.out.trans (HBB.out.mono HB.out.size)⟩
end Go.Proofs.YtcibajleknhklaaDoor
end

