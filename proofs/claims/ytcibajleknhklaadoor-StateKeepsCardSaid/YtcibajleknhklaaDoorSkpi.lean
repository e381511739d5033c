/-
  StateKeeps: a state that is right stays right, whatever is played, of energies from 0 to 31, and whatever is lost, up to 8 steps; as many samples are sounded as the mode has. For every input. The condition: the tables of fades and of cosines read as the program's text lays them (tied).
  (One text out of these parts: Without, Idx, StRight, StL, RefRight, Awake26, Samp, ApaW, KeepP, KeepW, FlatS, Law, LaidF, LaidC, StateKeepsRow.)
-/
import Derived.Test.YtcibajleknhklaaDoorSkph
import Derived.Laws.PanicsMore
import Derived.Test.YtcibajleknhklaaDoorProg
import Derived.BigQuiet
import Derived.DataReads
import Derived.ProofKit
import Derived.LaidMore
import Derived.OpenShut
import Derived.Stop.Joined
import Derived.Lib.LaidTab
import Derived.Test.YtcibajleknhklaaDoorRows
import Derived.Test.YtcibajleknhklaaDoorCards
import Derived.Test.YtcibajleknhklaaDoorTie
import Derived.SevenTiedAt
import Derived.Stop.LaidErr
section
namespace Go.Proofs.YtcibajleknhklaaDoor
open Go.RowKit Go.BigFrame Go.Proofs.YtcibajleknhklaaDoorW.PrintWords Go.Proofs.YtcibajleknhklaaDoorW.PrintLast Go.Proofs.YtcibajleknhklaaDoorW.PrintMore
open PStateTells RStateTells
set_option linter.unusedSimpArgs false
set_option linter.unusedVariables false
theorem zeroI64 (w : World) : (zeroValue 3).run Tryd.prog w = .ok (.int .i64 0) w := by kernel_rfl
/-- So many channels struck out. -/
def wk (n nb k : Nat) (st : Nat → Int) : Nat → Int := fun j => if 140 ≤ j then st j else wo n nb k st j
theorem wk_zero (n nb : Nat) (st : Nat → Int) (j : Nat) (hj : j < 142) : st j = wk n nb 0 st j := by
  unfold wk wo
  (repeat' split) <;> first | rfl | omega
theorem rep_get (n i : Nat) : (List.replicate n (0 : Int)).getD i 0 = 0 := by
  rw [List.getD_eq_getElem?_getD, List.getElem?_replicate]; split <;> rfl
theorem wk_step (n nb k : Nat) (st : Nat → Int) (hn : n ≤ 32) (hnb : nb ≤ 5) (hk : k < 2) (j : Nat) :
    updI (overF (overF (overF (wk n nb k st) (k * 5) (List.replicate nb 0)) (10 + k * 32) (List.replicate n 0)) (74 + k * 32) (List.replicate n 0)) (138 + k) 0 j = wk n nb (k + 1) st j := by
  unfold updI overF
  simp only [List.length_replicate, rep_get]
  unfold wk wo
  (repeat' split) <;> first | rfl | omega
theorem kS_E (j : Nat) (h : j < 10) : kS j = .i64 := by unfold kS; rw [if_pos h]
theorem kS_I (j : Nat) (h : 10 ≤ j) (h2 : j < 140) : kS j = .i32 := by unfold kS; rw [if_neg (by omega), if_pos h2]
/-- What a clear makes of a part of a block of whole numbers. -/
theorem clear_bx {P : Program} {B T N o n cp : Nat} {k : Nat → IntKind} {f : Nat → Int} {W : World} (h : Bx B T k N f W) (κ : IntKind) (t e : TypeId) (ht : P.underlying t = some (.slice e)) (hz : ∀ w, (zeroValue e).run P w = .ok (.int κ 0) w) (hn : 0 < n) (hN : o + n ≤ N) (hk : ∀ j, o ≤ j → j < o + n → k j = κ) :
    ∃ W', Only B W W' ∧ Bx B T k N (overF f o (List.replicate n 0)) W' ∧ ∀ ty, (Builtin.clear_ #[t] ty #[.slice (some ⟨B, o, none⟩) n cp]).run P W = .ok (.tuple #[]) W' := by
  have hb := bx_setCells h κ o (List.replicate n 0) (by simp; omega) (fun j h1 h2 => hk j h1 (by simpa using h2))
  rw [List.map_replicate] at hb
  exact ⟨_, only_setCells _ _ _ _, hb, fun ty => Lib.run_clear_slice W t e ty (.int κ 0) ht hz rfl rfl B o n cp hn (fun j hj => by rw [ag_cell h _ (by omega)]; rfl) (fun j hj => (block_facts h).2.1 _)⟩
set_option maxHeartbeats 4000000 in
set_option maxRecDepth 100000 in
theorem without_any (st : Nat → Int) (s : Int) (c : Nat) (hs : 0 ≤ s ∧ s ≤ 2) (hc : 1 ≤ c ∧ c ≤ 2) (w : World) :
    Calls Tryd.prog 93 #[.agg (ag kS 142 st), .agg #[.int .i64 s, .int .i64 c]] w fun e w' => e = .returned (.agg (ag kS 142 (wo (nOf s) (nbOf s) c st))) ∧ Below w.heap.size w w' := by
  have hN := Lib.hid (fun w => modeN26 s c hs (by omega) w)
  have hBn := Lib.hid (fun w => bands26 s c hs (by omega) w)
  obtain ⟨n, hn⟩ : ∃ n, nOf s = n := ⟨_, rfl⟩
  obtain ⟨nb, hnb⟩ : ∃ nb, nbOf s = nb := ⟨_, rfl⟩
  rw [hn] at hN
  rw [hnb] at hBn
  have hn32 : 8 ≤ n ∧ n ≤ 32 := by have := nOf_len s; rw [hn] at this; unfold Len at this; omega
  have hnb5 : 3 ≤ nb ∧ nb ≤ 5 := by unfold nbOf at hnb; omega
  have Hn := Lib.hid hn
  have Hnb := Lib.hid hnb
  rw [hn, hnb]
  clear hn hnb
  go_enter Tryd.func93, Tryd.ntmps93
  go_upto_region 1 with fail
  refine cut_world (fun V => LS w w.heap.size st s c V) ⟨by (repeat' (first | (with_reducible exact Below.refl _ _) | (with_reducible assumption) | (with_reducible refine Below.alloc ?_ ?_ _) | (with_reducible refine below_grew ?_ ?_ _) | (with_reducible refine Below.setCell ?_ ?_ _) | (with_reducible refine Below.drew ?_) | (with_reducible refine below_drewN ?_ _) | omega | (simp; done) | (simp; omega))), by simp, alloc_three _ _ _ _, alloc_second _ _ _ _, alloc_third _ _ _ _⟩ ?_
  intro V hV
  generalize hBd : w.heap.size = B at *
  have HBd := Lib.hid hBd
  have HV := Lib.hid hV
  have m1 := hV.m1
  clear hBd hV
  go_wp2_with fail
  go_loopw [8] (fun cnt wr => ∃ k : Nat, k ≤ c ∧ cnt = .int .i64 k ∧ LS w B (wk n nb k st) s c wr) (fun cnt _ => c - (intOf cnt).toNat)
  case atStart => exact ⟨0, by omega, rfl, HV.out.ext (wk_zero n nb st)⟩
  case round =>
    obtain ⟨k, hk, rfl, hLS⟩ := hrel
    have HLS := Lib.hid hLS
    have hws := hLS.size
    clear hLS m1
    by_cases hlt : k < c
    · have hlt' : (k : Int) < c := by omega
      have hk0 : (0 : Int) ≤ k := by omega
      have hk2 : (k : Int) < 2 := by omega
      have n0 : (0 : Int) ≤ n := by omega
      have n32 : (n : Int) ≤ 32 := by omega
      have b0 : (0 : Int) ≤ nb := by omega
      have b5 : (nb : Int) ≤ 5 := by omega
      have hwB : B + 1 < wr.heap.size := by omega
      have m0 := HLS.out.m0
      have m1 := HLS.out.m1
      go_wp2_with fail
      refine wp_region_inv [] (fun W => Below wr.heap.size wr W) (fun W W' => Below W.heap.size W W') 6 (by kernel_rfl) (by kernel_rfl) (by kernel_rfl) ((Below.refl _ _).drew) (fun W W' h h' => h.trans (h'.mono h.size)) (fun _ _ h => h.size) ?_
      simp only [List.take_succ_cons, List.take_zero, List.drop_succ_cons, List.drop_zero]
      refine wpInv_det (by kernel_rfl) (by kernel_rfl) ?_
      apply Exists.intro
      refine ⟨?_, ?_, ?_⟩
      · intro U W hC hH
        have hc1 := (bcell hC).1
        have hf1 := (bcell hC).2
        simp only [HypsU, predsOf, Region.binds, List.filterMap_cons, List.filterMap_nil, if_true, List.nil_append, List.cons_append, List.getD_cons_zero, List.getD_cons_succ] at hH
        simp only [fillPuts, Act.put, List.setIfInBounds_toArray, List.set_cons_zero, List.set_cons_succ, Nat.reduceAdd]
        go_wp2_with fail
        refine ⟨rfl, rfl, by (repeat' (first | (with_reducible exact Below.refl _ _) | (with_reducible assumption) | (with_reducible refine Below.alloc ?_ ?_ _) | (with_reducible refine below_grew ?_ ?_ _) | (with_reducible refine Below.setCell ?_ ?_ _) | (with_reducible refine Below.drew ?_) | (with_reducible refine below_drewN ?_ _) | omega | (simp; done) | (simp; omega))), ?_⟩
        conv => lhs; whnf
        try rfl
      · exact fun _ => rfl
      simp only [List.nil_append, List.cons_append, Nat.reduceAdd]
      refine wpInv_det (by kernel_rfl) (by kernel_rfl) ?_
      apply Exists.intro
      refine ⟨?_, ?_, ?_⟩
      · intro U W hC hH
        have hc1 := (bcell hC).1
        have hf1 := (bcell hC).2
        simp only [HypsU, predsOf, Region.binds, List.filterMap_cons, List.filterMap_nil, if_true, List.nil_append, List.cons_append, List.getD_cons_zero, List.getD_cons_succ] at hH
        simp only [fillPuts, Act.put, List.setIfInBounds_toArray, List.set_cons_zero, List.set_cons_succ, Nat.reduceAdd]
        go_wp2_with fail
        refine ⟨rfl, rfl, by (repeat' (first | (with_reducible exact Below.refl _ _) | (with_reducible assumption) | (with_reducible refine Below.alloc ?_ ?_ _) | (with_reducible refine below_grew ?_ ?_ _) | (with_reducible refine Below.setCell ?_ ?_ _) | (with_reducible refine Below.drew ?_) | (with_reducible refine below_drewN ?_ _) | omega | (simp; done) | (simp; omega))), ?_⟩
        conv => lhs; whnf
        try rfl
      · exact fun _ => rfl
      simp only [List.nil_append, List.cons_append, Nat.reduceAdd]
      refine wpInv_det (by kernel_rfl) (by kernel_rfl) ?_
      apply Exists.intro
      refine ⟨?_, ?_, ?_⟩
      · intro U W hC hH
        have hc1 := (bcell hC).1
        have hf1 := (bcell hC).2
        simp only [HypsU, predsOf, Region.binds, List.filterMap_cons, List.filterMap_nil, if_true, List.nil_append, List.cons_append, List.getD_cons_zero, List.getD_cons_succ] at hH
        simp only [fillPuts, Act.put, List.setIfInBounds_toArray, List.set_cons_zero, List.set_cons_succ, Nat.reduceAdd]
        go_wp2_with fail
        refine ⟨rfl, rfl, by (repeat' (first | (with_reducible exact Below.refl _ _) | (with_reducible assumption) | (with_reducible refine Below.alloc ?_ ?_ _) | (with_reducible refine below_grew ?_ ?_ _) | (with_reducible refine Below.setCell ?_ ?_ _) | (with_reducible refine Below.drew ?_) | (with_reducible refine below_drewN ?_ _) | omega | (simp; done) | (simp; omega))), ?_⟩
        conv => lhs; whnf
        try rfl
      · exact fun _ => rfl
      simp only [List.nil_append, List.cons_append, Nat.reduceAdd]
      refine wpInv_det (by kernel_rfl) (by kernel_rfl) ?_
      apply Exists.intro
      refine ⟨?_, ?_, ?_⟩
      · intro U W hC hH
        have hc1 := (bcell hC).1
        have hf1 := (bcell hC).2
        simp only [HypsU, predsOf, Region.binds, List.filterMap_cons, List.filterMap_nil, if_true, List.nil_append, List.cons_append, List.getD_cons_zero, List.getD_cons_succ] at hH
        simp only [fillPuts, Act.put, List.setIfInBounds_toArray, List.set_cons_zero, List.set_cons_succ, Nat.reduceAdd]
        go_wp2_with fail
        refine ⟨rfl, rfl, by (repeat' (first | (with_reducible exact Below.refl _ _) | (with_reducible assumption) | (with_reducible refine Below.alloc ?_ ?_ _) | (with_reducible refine below_grew ?_ ?_ _) | (with_reducible refine Below.setCell ?_ ?_ _) | (with_reducible refine Below.drew ?_) | (with_reducible refine below_drewN ?_ _) | omega | (simp; done) | (simp; omega))), ?_⟩
        conv => lhs; whnf
        try rfl
      · exact fun _ => rfl
      simp only [List.nil_append, List.cons_append, Nat.reduceAdd]
      refine wpInv_det (by kernel_rfl) (by kernel_rfl) ?_
      apply Exists.intro
      refine ⟨?_, ?_, ?_⟩
      · intro U W hC hH
        have hc1 := (bcell hC).1
        have hf1 := (bcell hC).2
        simp only [HypsU, predsOf, Region.binds, List.filterMap_cons, List.filterMap_nil, if_true, List.nil_append, List.cons_append, List.getD_cons_zero, List.getD_cons_succ] at hH
        simp only [fillPuts, Act.put, List.setIfInBounds_toArray, List.set_cons_zero, List.set_cons_succ, Nat.reduceAdd]
        go_wp2_with fail; refine (hBn.out _).mono ?_; rintro e w' ⟨rfl, hb1⟩; obtain ⟨x1, rfl⟩ := below_as_grew hb1; clear hb1; go_wp2_with fail
        refine ⟨rfl, rfl, by (repeat' (first | (with_reducible exact Below.refl _ _) | (with_reducible assumption) | (with_reducible refine Below.alloc ?_ ?_ _) | (with_reducible refine below_grew ?_ ?_ _) | (with_reducible refine Below.setCell ?_ ?_ _) | (with_reducible refine Below.drew ?_) | (with_reducible refine below_drewN ?_ _) | omega | (simp; done) | (simp; omega))), ?_⟩
        conv => lhs; whnf
        try rfl
      · exact fun _ => rfl
      simp only [List.nil_append, List.cons_append, Nat.reduceAdd]
      refine wpInv_det (by kernel_rfl) (by kernel_rfl) ?_
      apply Exists.intro
      refine ⟨?_, ?_, ?_⟩
      · intro U W hC hH
        have hc1 := (bcell hC).1
        have hf1 := (bcell hC).2
        simp only [HypsU, predsOf, Region.binds, List.filterMap_cons, List.filterMap_nil, if_true, List.nil_append, List.cons_append, List.getD_cons_zero, List.getD_cons_succ] at hH
        simp only [fillPuts, Act.put, List.setIfInBounds_toArray, List.set_cons_zero, List.set_cons_succ, Nat.reduceAdd]
        go_wp2_with fail
        refine ⟨rfl, rfl, by (repeat' (first | (with_reducible exact Below.refl _ _) | (with_reducible assumption) | (with_reducible refine Below.alloc ?_ ?_ _) | (with_reducible refine below_grew ?_ ?_ _) | (with_reducible refine Below.setCell ?_ ?_ _) | (with_reducible refine Below.drew ?_) | (with_reducible refine below_drewN ?_ _) | omega | (simp; done) | (simp; omega))), ?_⟩
        conv => lhs; whnf
        try rfl
      · exact fun _ => rfl
      simp only [List.nil_append, List.cons_append, Nat.reduceAdd]
      simp only [List.nil_append, List.cons_append, Nat.reduceAdd, fillPuts, Act.put, List.setIfInBounds_toArray, List.set_cons_zero, List.set_cons_succ]
      rintro U W hC ⟨h0, h1, h2, h3, h4, h5, -⟩ -
      simp only [h0, h1, h2, h3, h4, h5]
      clear h0 h1 h2 h3 h4 h5 m0 m1
      have hls := HLS.out.keep hC
      clear hC
      obtain ⟨W1, ho, hb, hcl⟩ := clear_bx (P := Tryd.prog) (o := k * 5) (n := nb) (cp := 5) hls.st .i64 28 3 Tryd.underlying28 zeroI64 (by omega) (by omega) (fun j h1 h2 => kS_E j (by omega))
      have hls1 := hls.only ho hb
      clear ho hb hls
      have HLS1 := Lib.hid hls1
      have m0 := hls1.m0
      have m1 := hls1.m1
      have hw1 : B + 1 < W1.heap.size := by have := hls1.size; omega
      clear hls1
      go_wp2_with (simp only [hcl])
      refine wp_region_inv [] (fun W => Below W1.heap.size W1 W) (fun W W' => Below W.heap.size W W') 6 (by kernel_rfl) (by kernel_rfl) (by kernel_rfl) ((Below.refl _ _).drew) (fun W W' h h' => h.trans (h'.mono h.size)) (fun _ _ h => h.size) ?_
      simp only [List.take_succ_cons, List.take_zero, List.drop_succ_cons, List.drop_zero]
      refine wpInv_det (by kernel_rfl) (by kernel_rfl) ?_
      apply Exists.intro
      refine ⟨?_, ?_, ?_⟩
      · intro U W hC hH
        have hc1 := (bcell hC).1
        have hf1 := (bcell hC).2
        simp only [HypsU, predsOf, Region.binds, List.filterMap_cons, List.filterMap_nil, if_true, List.nil_append, List.cons_append, List.getD_cons_zero, List.getD_cons_succ] at hH
        simp only [fillPuts, Act.put, List.setIfInBounds_toArray, List.set_cons_zero, List.set_cons_succ, Nat.reduceAdd]
        go_wp2_with fail
        refine ⟨rfl, rfl, by (repeat' (first | (with_reducible exact Below.refl _ _) | (with_reducible assumption) | (with_reducible refine Below.alloc ?_ ?_ _) | (with_reducible refine below_grew ?_ ?_ _) | (with_reducible refine Below.setCell ?_ ?_ _) | (with_reducible refine Below.drew ?_) | (with_reducible refine below_drewN ?_ _) | omega | (simp; done) | (simp; omega))), ?_⟩
        conv => lhs; whnf
        try rfl
      · exact fun _ => rfl
      simp only [List.nil_append, List.cons_append, Nat.reduceAdd]
      refine wpInv_det (by kernel_rfl) (by kernel_rfl) ?_
      apply Exists.intro
      refine ⟨?_, ?_, ?_⟩
      · intro U W hC hH
        have hc1 := (bcell hC).1
        have hf1 := (bcell hC).2
        simp only [HypsU, predsOf, Region.binds, List.filterMap_cons, List.filterMap_nil, if_true, List.nil_append, List.cons_append, List.getD_cons_zero, List.getD_cons_succ] at hH
        simp only [fillPuts, Act.put, List.setIfInBounds_toArray, List.set_cons_zero, List.set_cons_succ, Nat.reduceAdd]
        go_wp2_with fail
        refine ⟨rfl, rfl, by (repeat' (first | (with_reducible exact Below.refl _ _) | (with_reducible assumption) | (with_reducible refine Below.alloc ?_ ?_ _) | (with_reducible refine below_grew ?_ ?_ _) | (with_reducible refine Below.setCell ?_ ?_ _) | (with_reducible refine Below.drew ?_) | (with_reducible refine below_drewN ?_ _) | omega | (simp; done) | (simp; omega))), ?_⟩
        conv => lhs; whnf
        try rfl
      · exact fun _ => rfl
      simp only [List.nil_append, List.cons_append, Nat.reduceAdd]
      refine wpInv_det (by kernel_rfl) (by kernel_rfl) ?_
      apply Exists.intro
      refine ⟨?_, ?_, ?_⟩
      · intro U W hC hH
        have hc1 := (bcell hC).1
        have hf1 := (bcell hC).2
        simp only [HypsU, predsOf, Region.binds, List.filterMap_cons, List.filterMap_nil, if_true, List.nil_append, List.cons_append, List.getD_cons_zero, List.getD_cons_succ] at hH
        simp only [fillPuts, Act.put, List.setIfInBounds_toArray, List.set_cons_zero, List.set_cons_succ, Nat.reduceAdd]
        go_wp2_with fail
        refine ⟨rfl, rfl, by (repeat' (first | (with_reducible exact Below.refl _ _) | (with_reducible assumption) | (with_reducible refine Below.alloc ?_ ?_ _) | (with_reducible refine below_grew ?_ ?_ _) | (with_reducible refine Below.setCell ?_ ?_ _) | (with_reducible refine Below.drew ?_) | (with_reducible refine below_drewN ?_ _) | omega | (simp; done) | (simp; omega))), ?_⟩
        conv => lhs; whnf
        try rfl
      · exact fun _ => rfl
      simp only [List.nil_append, List.cons_append, Nat.reduceAdd]
      refine wpInv_det (by kernel_rfl) (by kernel_rfl) ?_
      apply Exists.intro
      refine ⟨?_, ?_, ?_⟩
      · intro U W hC hH
        have hc1 := (bcell hC).1
        have hf1 := (bcell hC).2
        simp only [HypsU, predsOf, Region.binds, List.filterMap_cons, List.filterMap_nil, if_true, List.nil_append, List.cons_append, List.getD_cons_zero, List.getD_cons_succ] at hH
        simp only [fillPuts, Act.put, List.setIfInBounds_toArray, List.set_cons_zero, List.set_cons_succ, Nat.reduceAdd]
        go_wp2_with fail
        refine ⟨rfl, rfl, by (repeat' (first | (with_reducible exact Below.refl _ _) | (with_reducible assumption) | (with_reducible refine Below.alloc ?_ ?_ _) | (with_reducible refine below_grew ?_ ?_ _) | (with_reducible refine Below.setCell ?_ ?_ _) | (with_reducible refine Below.drew ?_) | (with_reducible refine below_drewN ?_ _) | omega | (simp; done) | (simp; omega))), ?_⟩
        conv => lhs; whnf
        try rfl
      · exact fun _ => rfl
      simp only [List.nil_append, List.cons_append, Nat.reduceAdd]
      refine wpInv_det (by kernel_rfl) (by kernel_rfl) ?_
      apply Exists.intro
      refine ⟨?_, ?_, ?_⟩
      · intro U W hC hH
        have hc1 := (bcell hC).1
        have hf1 := (bcell hC).2
        simp only [HypsU, predsOf, Region.binds, List.filterMap_cons, List.filterMap_nil, if_true, List.nil_append, List.cons_append, List.getD_cons_zero, List.getD_cons_succ] at hH
        simp only [fillPuts, Act.put, List.setIfInBounds_toArray, List.set_cons_zero, List.set_cons_succ, Nat.reduceAdd]
        go_wp2_with fail; refine (hN.out _).mono ?_; rintro e w' ⟨rfl, hb1⟩; obtain ⟨x1, rfl⟩ := below_as_grew hb1; clear hb1; go_wp2_with fail
        refine ⟨rfl, rfl, by (repeat' (first | (with_reducible exact Below.refl _ _) | (with_reducible assumption) | (with_reducible refine Below.alloc ?_ ?_ _) | (with_reducible refine below_grew ?_ ?_ _) | (with_reducible refine Below.setCell ?_ ?_ _) | (with_reducible refine Below.drew ?_) | (with_reducible refine below_drewN ?_ _) | omega | (simp; done) | (simp; omega))), ?_⟩
        conv => lhs; whnf
        try rfl
      · exact fun _ => rfl
      simp only [List.nil_append, List.cons_append, Nat.reduceAdd]
      refine wpInv_det (by kernel_rfl) (by kernel_rfl) ?_
      apply Exists.intro
      refine ⟨?_, ?_, ?_⟩
      · intro U W hC hH
        have hc1 := (bcell hC).1
        have hf1 := (bcell hC).2
        simp only [HypsU, predsOf, Region.binds, List.filterMap_cons, List.filterMap_nil, if_true, List.nil_append, List.cons_append, List.getD_cons_zero, List.getD_cons_succ] at hH
        simp only [fillPuts, Act.put, List.setIfInBounds_toArray, List.set_cons_zero, List.set_cons_succ, Nat.reduceAdd]
        go_wp2_with fail
        refine ⟨rfl, rfl, by (repeat' (first | (with_reducible exact Below.refl _ _) | (with_reducible assumption) | (with_reducible refine Below.alloc ?_ ?_ _) | (with_reducible refine below_grew ?_ ?_ _) | (with_reducible refine Below.setCell ?_ ?_ _) | (with_reducible refine Below.drew ?_) | (with_reducible refine below_drewN ?_ _) | omega | (simp; done) | (simp; omega))), ?_⟩
        conv => lhs; whnf
        try rfl
      · exact fun _ => rfl
      simp only [List.nil_append, List.cons_append, Nat.reduceAdd]
      simp only [List.nil_append, List.cons_append, Nat.reduceAdd, fillPuts, Act.put, List.setIfInBounds_toArray, List.set_cons_zero, List.set_cons_succ]
      rintro U W hC ⟨h0, h1, h2, h3, h4, h5, -⟩ -
      simp only [h0, h1, h2, h3, h4, h5]
      clear h0 h1 h2 h3 h4 h5 m0 m1
      have hls := HLS1.out.keep hC
      clear hC
      obtain ⟨W2, ho, hb, hcl2⟩ := clear_bx (P := Tryd.prog) (o := 10 + k * 32) (n := n) (cp := 32) hls.st .i32 43 21 Tryd.underlying43 zeroI32 (by omega) (by omega) (fun j h1 h2 => kS_I j (by omega) (by omega))
      have hls2 := hls.only ho hb
      clear ho hb hls
      have HLS2 := Lib.hid hls2
      have m0 := hls2.m0
      have m1 := hls2.m1
      have hw2 : B + 1 < W2.heap.size := by have := hls2.size; omega
      skip
      clear hls2
      go_wp2_with (simp only [hcl2])
      refine wp_region_inv [] (fun W => Below W2.heap.size W2 W) (fun W W' => Below W.heap.size W W') 6 (by kernel_rfl) (by kernel_rfl) (by kernel_rfl) ((Below.refl _ _).drew) (fun W W' h h' => h.trans (h'.mono h.size)) (fun _ _ h => h.size) ?_
      simp only [List.take_succ_cons, List.take_zero, List.drop_succ_cons, List.drop_zero]
      refine wpInv_det (by kernel_rfl) (by kernel_rfl) ?_
      apply Exists.intro
      refine ⟨?_, ?_, ?_⟩
      · intro U W hC hH
        have hc1 := (bcell hC).1
        have hf1 := (bcell hC).2
        simp only [HypsU, predsOf, Region.binds, List.filterMap_cons, List.filterMap_nil, if_true, List.nil_append, List.cons_append, List.getD_cons_zero, List.getD_cons_succ] at hH
        simp only [fillPuts, Act.put, List.setIfInBounds_toArray, List.set_cons_zero, List.set_cons_succ, Nat.reduceAdd]
        go_wp2_with fail
        refine ⟨rfl, rfl, by (repeat' (first | (with_reducible exact Below.refl _ _) | (with_reducible assumption) | (with_reducible refine Below.alloc ?_ ?_ _) | (with_reducible refine below_grew ?_ ?_ _) | (with_reducible refine Below.setCell ?_ ?_ _) | (with_reducible refine Below.drew ?_) | (with_reducible refine below_drewN ?_ _) | omega | (simp; done) | (simp; omega))), ?_⟩
        conv => lhs; whnf
        try rfl
      · exact fun _ => rfl
      simp only [List.nil_append, List.cons_append, Nat.reduceAdd]
      refine wpInv_det (by kernel_rfl) (by kernel_rfl) ?_
      apply Exists.intro
      refine ⟨?_, ?_, ?_⟩
      · intro U W hC hH
        have hc1 := (bcell hC).1
        have hf1 := (bcell hC).2
        simp only [HypsU, predsOf, Region.binds, List.filterMap_cons, List.filterMap_nil, if_true, List.nil_append, List.cons_append, List.getD_cons_zero, List.getD_cons_succ] at hH
        simp only [fillPuts, Act.put, List.setIfInBounds_toArray, List.set_cons_zero, List.set_cons_succ, Nat.reduceAdd]
        go_wp2_with fail
        refine ⟨rfl, rfl, by (repeat' (first | (with_reducible exact Below.refl _ _) | (with_reducible assumption) | (with_reducible refine Below.alloc ?_ ?_ _) | (with_reducible refine below_grew ?_ ?_ _) | (with_reducible refine Below.setCell ?_ ?_ _) | (with_reducible refine Below.drew ?_) | (with_reducible refine below_drewN ?_ _) | omega | (simp; done) | (simp; omega))), ?_⟩
        conv => lhs; whnf
        try rfl
      · exact fun _ => rfl
      simp only [List.nil_append, List.cons_append, Nat.reduceAdd]
      refine wpInv_det (by kernel_rfl) (by kernel_rfl) ?_
      apply Exists.intro
      refine ⟨?_, ?_, ?_⟩
      · intro U W hC hH
        have hc1 := (bcell hC).1
        have hf1 := (bcell hC).2
        simp only [HypsU, predsOf, Region.binds, List.filterMap_cons, List.filterMap_nil, if_true, List.nil_append, List.cons_append, List.getD_cons_zero, List.getD_cons_succ] at hH
        simp only [fillPuts, Act.put, List.setIfInBounds_toArray, List.set_cons_zero, List.set_cons_succ, Nat.reduceAdd]
        go_wp2_with fail
        refine ⟨rfl, rfl, by (repeat' (first | (with_reducible exact Below.refl _ _) | (with_reducible assumption) | (with_reducible refine Below.alloc ?_ ?_ _) | (with_reducible refine below_grew ?_ ?_ _) | (with_reducible refine Below.setCell ?_ ?_ _) | (with_reducible refine Below.drew ?_) | (with_reducible refine below_drewN ?_ _) | omega | (simp; done) | (simp; omega))), ?_⟩
        conv => lhs; whnf
        try rfl
      · exact fun _ => rfl
      simp only [List.nil_append, List.cons_append, Nat.reduceAdd]
      refine wpInv_det (by kernel_rfl) (by kernel_rfl) ?_
      apply Exists.intro
      refine ⟨?_, ?_, ?_⟩
      · intro U W hC hH
        have hc1 := (bcell hC).1
        have hf1 := (bcell hC).2
        simp only [HypsU, predsOf, Region.binds, List.filterMap_cons, List.filterMap_nil, if_true, List.nil_append, List.cons_append, List.getD_cons_zero, List.getD_cons_succ] at hH
        simp only [fillPuts, Act.put, List.setIfInBounds_toArray, List.set_cons_zero, List.set_cons_succ, Nat.reduceAdd]
        go_wp2_with fail
        refine ⟨rfl, rfl, by (repeat' (first | (with_reducible exact Below.refl _ _) | (with_reducible assumption) | (with_reducible refine Below.alloc ?_ ?_ _) | (with_reducible refine below_grew ?_ ?_ _) | (with_reducible refine Below.setCell ?_ ?_ _) | (with_reducible refine Below.drew ?_) | (with_reducible refine below_drewN ?_ _) | omega | (simp; done) | (simp; omega))), ?_⟩
        conv => lhs; whnf
        try rfl
      · exact fun _ => rfl
      simp only [List.nil_append, List.cons_append, Nat.reduceAdd]
      refine wpInv_det (by kernel_rfl) (by kernel_rfl) ?_
      apply Exists.intro
      refine ⟨?_, ?_, ?_⟩
      · intro U W hC hH
        have hc1 := (bcell hC).1
        have hf1 := (bcell hC).2
        simp only [HypsU, predsOf, Region.binds, List.filterMap_cons, List.filterMap_nil, if_true, List.nil_append, List.cons_append, List.getD_cons_zero, List.getD_cons_succ] at hH
        simp only [fillPuts, Act.put, List.setIfInBounds_toArray, List.set_cons_zero, List.set_cons_succ, Nat.reduceAdd]
        go_wp2_with fail; refine (hN.out _).mono ?_; rintro e w' ⟨rfl, hb1⟩; obtain ⟨x1, rfl⟩ := below_as_grew hb1; clear hb1; go_wp2_with fail
        refine ⟨rfl, rfl, by (repeat' (first | (with_reducible exact Below.refl _ _) | (with_reducible assumption) | (with_reducible refine Below.alloc ?_ ?_ _) | (with_reducible refine below_grew ?_ ?_ _) | (with_reducible refine Below.setCell ?_ ?_ _) | (with_reducible refine Below.drew ?_) | (with_reducible refine below_drewN ?_ _) | omega | (simp; done) | (simp; omega))), ?_⟩
        conv => lhs; whnf
        try rfl
      · exact fun _ => rfl
      simp only [List.nil_append, List.cons_append, Nat.reduceAdd]
      refine wpInv_det (by kernel_rfl) (by kernel_rfl) ?_
      apply Exists.intro
      refine ⟨?_, ?_, ?_⟩
      · intro U W hC hH
        have hc1 := (bcell hC).1
        have hf1 := (bcell hC).2
        simp only [HypsU, predsOf, Region.binds, List.filterMap_cons, List.filterMap_nil, if_true, List.nil_append, List.cons_append, List.getD_cons_zero, List.getD_cons_succ] at hH
        simp only [fillPuts, Act.put, List.setIfInBounds_toArray, List.set_cons_zero, List.set_cons_succ, Nat.reduceAdd]
        go_wp2_with fail
        refine ⟨rfl, rfl, by (repeat' (first | (with_reducible exact Below.refl _ _) | (with_reducible assumption) | (with_reducible refine Below.alloc ?_ ?_ _) | (with_reducible refine below_grew ?_ ?_ _) | (with_reducible refine Below.setCell ?_ ?_ _) | (with_reducible refine Below.drew ?_) | (with_reducible refine below_drewN ?_ _) | omega | (simp; done) | (simp; omega))), ?_⟩
        conv => lhs; whnf
        try rfl
      · exact fun _ => rfl
      simp only [List.nil_append, List.cons_append, Nat.reduceAdd]
      simp only [List.nil_append, List.cons_append, Nat.reduceAdd, fillPuts, Act.put, List.setIfInBounds_toArray, List.set_cons_zero, List.set_cons_succ]
      rintro U W hC ⟨h0, h1, h2, h3, h4, h5, -⟩ -
      simp only [h0, h1, h2, h3, h4, h5]
      clear h0 h1 h2 h3 h4 h5 m0 m1
      have hls := HLS2.out.keep hC
      clear hC
      obtain ⟨W3, ho, hb, hcl3⟩ := clear_bx (P := Tryd.prog) (o := 74 + k * 32) (n := n) (cp := 32) hls.st .i32 43 21 Tryd.underlying43 zeroI32 (by omega) (by omega) (fun j h1 h2 => kS_I j (by omega) (by omega))
      have hls3 := hls.only ho hb
      clear ho hb hls
      have HLS3 := Lib.hid hls3
      have m0 := hls3.m0
      have m1 := hls3.m1
      have hw3 : B + 1 < W3.heap.size := by have := hls3.size; omega
      have d1 := ag_cell hls3.st (138 + k) (by omega); have d2 := (block_facts hls3.st).2.1 (138 + k); rw [kS_I _ (by omega) (by omega)] at d1
      clear hls3
      go_wp2_with (simp only [hcl3])
      go_roundw
      case rel =>
        have ho := only_setCell W3 ⟨B, 138 + k, none⟩ (.int .i32 0)
        have hbx := ag_store HLS3.out.st (138 + k) (by omega) 0
        rw [kS_I _ (by omega) (by omega)] at hbx
        exact ⟨k + 1, by omega, rfl, (HLS3.out.only ho hbx).ext (fun j hj => wk_step n nb k st (by omega) (by omega) (by omega) j)⟩
      case measure => simp [intOf]; omega
    · have hlt' : ¬ (k : Int) < c := by omega
      obtain rfl : k = c := by omega
      have d1 := ag_cell HLS.out.st 140 (by omega)
      have d2 := ag_cell HLS.out.st 141 (by omega)
      have d3 := (block_facts HLS.out.st).2.1 140
      have d4 := (block_facts HLS.out.st).2.1 141
      rw [show kS 140 = .u32 from rfl] at d1
      rw [show kS 141 = .i64 from rfl] at d2
      have ho := (only_setCell wr ⟨B, 140, none⟩ (.int .u32 0)).setCell (.int .i64 0) (p := ⟨B, 141, none⟩)
      have hbx := ag_store (ag_store HLS.out.st 140 (by omega) 0) 141 (by omega) 0
      have hls := (HLS.out.only ho hbx).ext (f' := wo n nb k st) (fun j hj => by unfold updI wk wo; (repeat' split) <;> first | rfl | omega)
      go_upto_region 10 with fail
      refine cut_world (fun W => LS w B (wo n nb k st) s k W) hls ?_
      clear d1 d2 d3 d4 ho hbx hls
      intro W hW
      have HW := Lib.hid hW
      clear hW
      go_wp2_with (first | (refine wpList_load_row rfl St _ rfl B rfl _ (ag kS 142 (wo n nb k st)) (0, 0) _ HW.out.st Tryd.underlying97 rfl ?hin ?_; (case hin => exact infoS_ag _)) | (refine wpList_store_mid rfl St _ _ rfl (B + 1 + 1) 0 (ag kS 142 (wo n nb k st)) rfl rfl ?hth ?hin ?hon ?_; (case hth => exact there_row HW.out.rz _ (zeroS_le _)); (case hin => exact infoS_ag _); (case hon => exact ag_one kS 142 _)))
      have q1 := cells_all HW.out.rz (N := 142) zeroS_size (cs := ag kS 142 (wo n nb k st)) (ag_size _ _ _)
      have hfin : Below w.heap.size w (W.setCells (B + 1 + 1) 0 (ag kS 142 (wo n nb k st)).toList) := (only_setCells _ _ _ _).below (HW.out.below' (Nat.le_of_eq HBd.out)) (by rw [HBd.out]; omega)
      refine bodyPost_ret (v := .agg (ag kS 142 (wo n nb k st))) ?_ rfl ⟨by rfl, ?_⟩
      · exact results_cell_row rfl _ _ (B + 1 + 1) _ _ _ _ rfl q1 Tryd.underlying97 rfl (infoS_ag _)
      · rw [HBd.out] at hfin ⊢; exact hfin
end Go.Proofs.YtcibajleknhklaaDoor
end

section
namespace Go
open Go.RowKit
theorem run_index_one {P : Program} (t e : TypeId) (n : Nat) (cs : Array Value) (k : Nat) (x : Value) (d : TypeDesc) (h : P.underlying t = some (.array n e)) (he : P.underlying e = some d) (hd : (∀ fs, d ≠ .struct fs) ∧ (∀ m f, d ≠ .array m f)) (hi : (P.info? e).map (·.size) = some 1) (hk : k < n) (hx : cs[k]? = some x) (w : World) :
    (Instr.index t (.agg cs) (.int .i64 k)).run P w = .ok x w := by
  have hagg : (isAgg e).run P w = .ok false w := by
    unfold isAgg
    rw [Sem.run_bind, run_underlying he w]
    cases d <;> simp_all
  cases hq : P.info? e with
  | none => simp [hq] at hi
  | some i =>
    have hs : i.size = 1 := by simpa [hq] using hi
    unfold Instr.index
    simp [Sem.run_bind, asIntOf, run_underlying h, hagg, sizeOf, typeInfo, hq, hs, part, hx, go_sem]
    omega
end Go
end

section
namespace Go.Proofs.YtcibajleknhklaaDoor
open Go.RowKit Go.BigFrame Go.Proofs.YtcibajleknhklaaDoorW.PrintWords Go.Proofs.YtcibajleknhklaaDoorW.PrintLast Go.Proofs.YtcibajleknhklaaDoorW.PrintMore
open PStateTells RStateTells
set_option linter.unusedSimpArgs false
set_option linter.unusedVariables false
theorem cellsEq_ag2 (k : Nat → IntKind) (f g : Nat → Int) : ∀ l : List Nat, cellsEq (l.map fun i => Value.int (k i) (f i)) (l.map fun i => Value.int (k i) (g i)) = l.all fun i => f i == g i
  | [] => rfl
  | i :: l => by
    simp only [List.map_cons, cellsEq, cellEq, cellsEq_ag2 k f g l, List.all_cons]
def eqB (f g : Nat → Int) : Bool := (List.range 142).all fun i => f i == g i
theorem eqB_iff (f g : Nat → Int) : eqB f g = true ↔ ∀ j, j < 142 → f j = g j := by
  unfold eqB
  rw [List.all_eq_true]
  simp
theorem layoutS : layout Tryd.prog 4 St = some ((List.range 142).map fun i => Leaf.int (kS i)) := by kernel_rfl
theorem eq_stateS (f g : Nat → Int) (w : World) : (Op.equalIn 10000 St (.agg (ag kS 142 f)) (.agg (ag kS 142 g))).run Tryd.prog w = .ok (eqB f g) w := by
  have h := eq_flat (P := Tryd.prog) St 4 _ layoutS (by decide) (by kernel_rfl) ((List.range 142).map fun i => Value.int (kS i) (f i)) ((List.range 142).map fun i => Value.int (kS i) (g i)) (fitAll_ag _ _ _) (fitAll_ag _ _ _) w
  rw [cellsEq_ag2] at h
  exact h
theorem zeroS_eq : Tryd.zeroCells97 = ag kS 142 (fun _ => 0) := by kernel_rfl
theorem eq_stateZ (f : Nat → Int) (w : World) : (Op.equalIn 10000 St (.agg (ag kS 142 f)) (.agg Tryd.zeroCells97)).run Tryd.prog w = .ok (eqB f fun _ => 0) w := by
  rw [zeroS_eq]; exact eq_stateS f _ w
/-- A call's frame: the state, the mode. -/
structure L2 (w : World) (B : Nat) (f : Nat → Int) (s c : Int) (W : World) : Prop where
  below : Below B w W
  size : B + 1 < W.heap.size
  st : Bx B St kS 142 f W
  mo : W.heap[B + 1]? = some (.cells #[.int .i64 s, .int .i64 c] 60 (0, 0))
theorem L2.keep {w B f s c} {W W' : World} (h : L2 w B f s c W) (hb : Below W.heap.size W W') : L2 w B f s c W' := by
  have hs := h.size
  exact ⟨h.below.trans (hb.mono (by omega)), Nat.lt_of_lt_of_le hs hb.size, (hb.block _ (by omega)).trans h.st, (hb.block _ (by omega)).trans h.mo⟩
theorem L2.m0 {w B f s c} {W : World} (h : L2 w B f s c W) : W.cell? ⟨B + 1, 0, none⟩ = some (.int .i64 s) := (block_facts h.mo).1 0
theorem L2.m1 {w B f s c} {W : World} (h : L2 w B f s c W) : W.cell? ⟨B + 1, 1, none⟩ = some (.int .i64 c) := (block_facts h.mo).1 1
set_option maxHeartbeats 4000000 in
set_option maxRecDepth 100000 in
theorem right_yes (st : Nat → Int) (s : Int) (c : Nat) (hs : 0 ≤ s ∧ s ≤ 2) (hc : 1 ≤ c ∧ c ≤ 2) (w : World) (q : Bool) (hq : q = true ↔ StOk (nOf s) (nbOf s) c st) (h32 : ∀ j, 10 ≤ j → j < 140 → -2147483648 ≤ st j ∧ st j ≤ 2147483647) :
    Calls Tryd.prog 55 #[.agg (ag kS 142 st), .agg #[.int .i64 s, .int .i64 c]] w fun e w' => e = .returned (.bool q) ∧ Below w.heap.size w w' := by
  have hRt := Lib.hid (fun w => modeRight s c w)
  rw [decide_eq_true (show RightP s c from ⟨by omega, by omega, by omega, by omega⟩)] at hRt
  have hWo := Lib.hid (fun w => without_any st s c hs hc w)
  have hEq := Lib.hid (fun w => eq_stateZ (wo (nOf s) (nbOf s) c st) w)
  have HQ := Lib.hid hq
  have H32 := Lib.hid h32
  obtain ⟨z, hz⟩ : ∃ z, eqB (wo (nOf s) (nbOf s) c st) (fun _ => 0) = z := ⟨_, rfl⟩
  rw [hz] at hEq
  have HZ := Lib.hid hz
  have e141 : (ag kS 142 st)[141]? = some (.int .i64 (st 141)) := ag_get _ _ _ _ (by decide)
  clear hq hz h32
  go_enter Tryd.func55, Tryd.ntmps55
  go_upto_region 1 with fail
  refine cut_world (fun V => L2 w w.heap.size st s c V) ⟨by (repeat' (first | (with_reducible exact Below.refl _ _) | (with_reducible assumption) | (with_reducible refine Below.alloc ?_ ?_ _) | (with_reducible refine below_grew ?_ ?_ _) | (with_reducible refine Below.setCell ?_ ?_ _) | (with_reducible refine Below.drew ?_) | (with_reducible refine below_drewN ?_ _) | omega | (simp; done) | (simp; omega))), by simp, alloc_two _ _ _, alloc_secondOf _ _ _⟩ ?_
  intro V hV
  generalize hBd : w.heap.size = B at *
  have HBd := Lib.hid hBd
  have HV := Lib.hid hV
  have m0 := hV.m0
  have m1 := hV.m1
  have hVs := hV.size
  have hVs2 : B < V.heap.size := by omega
  have d1 := ag_cell hV.st 141 (by omega)
  rw [show kS 141 = .i64 from rfl] at d1
  generalize hlo : st 141 = lo at d1
  have HLO := Lib.hid hlo
  clear hBd hV e141 hlo
  cases z with
  | false =>
    have hE := hEq.out
    go_wp2_with (first | (refine load_row_g rfl St _ rfl B rfl _ (ag kS 142 st) (0, 0) _ ((World.grew_block V _ B hVs2).trans HV.out.st) Tryd.underlying97 rfl ?hin ?_; (case hin => exact infoS_ag _)) | (go_at_call 86; refine (hRt.out _).mono ?_; rintro e w' ⟨rfl, hb1⟩; obtain ⟨x1, rfl⟩ := below_as_grew hb1; clear hb1) | (go_at_call 93; refine (hWo.out _).mono ?_; rintro e w' ⟨rfl, hb1⟩; obtain ⟨x1, rfl⟩ := below_as_grew hb1; clear hb1))
    go_ret
    exact ⟨ret_bool (by
      have h1 := HZ.out
      cases q with
      | false => rfl
      | true =>
        have h2 := (eqB_iff _ _).2 (HQ.out.1 rfl).1
        rw [h1] at h2
        cases h2), by rw [HBd.out]; exact HV.out.below.trans (Below.mono (B := V.heap.size) (by (repeat' (first | (with_reducible exact Below.refl _ _) | (with_reducible assumption) | (with_reducible refine Below.alloc ?_ ?_ _) | (with_reducible refine below_grew ?_ ?_ _) | (with_reducible refine Below.setCell ?_ ?_ _) | (with_reducible refine Below.drew ?_) | (with_reducible refine below_drewN ?_ _) | omega | (simp; done) | (simp; omega)))) (by omega))⟩
  | true =>
    have HE := Lib.hid hEq.out
    by_cases hlo0 : lo < 0
    · have hE := hEq.out
      go_wp2_with (first | (refine load_row_g rfl St _ rfl B rfl _ (ag kS 142 st) (0, 0) _ ((World.grew_block V _ B hVs2).trans HV.out.st) Tryd.underlying97 rfl ?hin ?_; (case hin => exact infoS_ag _)) | (go_at_call 86; refine (hRt.out _).mono ?_; rintro e w' ⟨rfl, hb1⟩; obtain ⟨x1, rfl⟩ := below_as_grew hb1; clear hb1) | (go_at_call 93; refine (hWo.out _).mono ?_; rintro e w' ⟨rfl, hb1⟩; obtain ⟨x1, rfl⟩ := below_as_grew hb1; clear hb1))
      go_ret
      exact ⟨ret_bool (by
        cases q with
        | false => rfl
        | true => have h2 := (HQ.out.1 rfl).2.1; rw [HLO.out] at h2; omega), by rw [HBd.out]; exact HV.out.below.trans (Below.mono (B := V.heap.size) (by (repeat' (first | (with_reducible exact Below.refl _ _) | (with_reducible assumption) | (with_reducible refine Below.alloc ?_ ?_ _) | (with_reducible refine below_grew ?_ ?_ _) | (with_reducible refine Below.setCell ?_ ?_ _) | (with_reducible refine Below.drew ?_) | (with_reducible refine below_drewN ?_ _) | omega | (simp; done) | (simp; omega)))) (by omega))⟩
    · by_cases hlo1 : lo > 1000
      · have hE := hEq.out
        go_wp2_with (first | (refine load_row_g rfl St _ rfl B rfl _ (ag kS 142 st) (0, 0) _ ((World.grew_block V _ B hVs2).trans HV.out.st) Tryd.underlying97 rfl ?hin ?_; (case hin => exact infoS_ag _)) | (go_at_call 86; refine (hRt.out _).mono ?_; rintro e w' ⟨rfl, hb1⟩; obtain ⟨x1, rfl⟩ := below_as_grew hb1; clear hb1) | (go_at_call 93; refine (hWo.out _).mono ?_; rintro e w' ⟨rfl, hb1⟩; obtain ⟨x1, rfl⟩ := below_as_grew hb1; clear hb1))
        go_ret
        exact ⟨ret_bool (by
          cases q with
          | false => rfl
          | true => have h2 := (HQ.out.1 rfl).2.1; rw [HLO.out] at h2; omega), by rw [HBd.out]; exact HV.out.below.trans (Below.mono (B := V.heap.size) (by (repeat' (first | (with_reducible exact Below.refl _ _) | (with_reducible assumption) | (with_reducible refine Below.alloc ?_ ?_ _) | (with_reducible refine below_grew ?_ ?_ _) | (with_reducible refine Below.setCell ?_ ?_ _) | (with_reducible refine Below.drew ?_) | (with_reducible refine below_drewN ?_ _) | omega | (simp; done) | (simp; omega)))) (by omega))⟩
      · have hE := hEq.out
        go_upto_region 3 with (first | (refine load_row_g rfl St _ rfl B rfl _ (ag kS 142 st) (0, 0) _ ((World.grew_block V _ B hVs2).trans HV.out.st) Tryd.underlying97 rfl ?hin ?_; (case hin => exact infoS_ag _)) | (go_at_call 86; refine (hRt.out _).mono ?_; rintro e w' ⟨rfl, hb1⟩; obtain ⟨x1, rfl⟩ := below_as_grew hb1; clear hb1) | (go_at_call 93; refine (hWo.out _).mono ?_; rintro e w' ⟨rfl, hb1⟩; obtain ⟨x1, rfl⟩ := below_as_grew hb1; clear hb1))
        clear hE d1 m0 m1
        refine cut_world (fun W => L2 w B st s c W) (HV.out.keep (by (repeat' (first | (with_reducible exact Below.refl _ _) | (with_reducible assumption) | (with_reducible refine Below.alloc ?_ ?_ _) | (with_reducible refine below_grew ?_ ?_ _) | (with_reducible refine Below.setCell ?_ ?_ _) | (with_reducible refine Below.drew ?_) | (with_reducible refine below_drewN ?_ _) | omega | (simp; done) | (simp; omega))))) ?_
        intro W hW
        have HW := Lib.hid hW
        have m1 := hW.m1
        clear hW
        go_wp2_with fail
        go_loopw [32] (fun cnt wr => ∃ k : Nat, k ≤ c ∧ cnt = .int .i64 k ∧ L2 w B st s c wr ∧ ∀ ch, ch < k → ChOk st ch) (fun cnt _ => c - (intOf cnt).toNat)
        case atStart => exact ⟨0, by omega, rfl, HW.out, fun ch h => by omega⟩
        case round =>
          obtain ⟨k, hk, rfl, hL, hall⟩ := hrel
          have HL := Lib.hid hL
          have HALL := Lib.hid hall
          clear hL hall m1
          by_cases hlt : k < c
          · have hlt' : (k : Int) < c := by omega
            have hk0 : (0 : Int) ≤ k := by omega
            have hk2 : (k : Int) < 2 := by omega
            have hrE := Lib.hid (bx_rangeK HL.out.st .i64 (k * 5) 5 (by omega) (fun j h1 h2 => kS_E j (by omega)))
            have i5 := Lib.hid (show (Tryd.prog.info? 55).map (·.size) = some 5 from by kernel_rfl)
            go_wp2_with (refine load_mid_g rfl 55 _ rfl B (k * 5) rfl _ _ hrE.out Tryd.underlying55 rfl ?hi ?_; (case hi => rw [Array.length_toList, ag_size]; exact i5.out))
            go_loopw [39] (fun cnt wr => ∃ i : Nat, i ≤ 5 ∧ cnt = .int .i64 i ∧ L2 w B st s c wr ∧ ∀ b, b < i → okE (st (k * 5 + b))) (fun cnt _ => 5 - (intOf cnt).toNat)
            case atStart => exact ⟨0, by omega, rfl, HL.out, fun b h => by omega⟩
            case round =>
              obtain ⟨i, hi, rfl, hL, hE⟩ := hrel
              have HL2 := Lib.hid hL
              have HE2 := Lib.hid hE
              clear hL hE
              by_cases hlt2 : i < 5
              · have hlt2' : (i : Int) < 5 := by omega
                have hix := run_index_one (P := Tryd.prog) 55 3 5 (ag (fun _ => .i64) 5 (fun i => st (k * 5 + i))) i _ _ Tryd.underlying55 Tryd.underlying3 (by refine ⟨fun _ h => ?_, fun _ _ h => ?_⟩ <;> cases h) (by kernel_rfl) hlt2 (ag_get _ _ _ _ hlt2)
                generalize hy : st (k * 5 + i) = y at hix
                have HY := Lib.hid hy
                clear hy
                by_cases hy0 : y < 0
                · go_wp2_with fail
                  go_ret
                  exact ⟨ret_bool (by
                    cases q with
                    | false => rfl
                    | true => have h2 := ((HQ.out.1 rfl).2.2 k hlt).1 i hlt2; rw [HY.out] at h2; unfold okE at h2; omega), by rw [HBd.out]; exact HL2.out.below⟩
                · by_cases hy1 : y > 31
                  · go_wp2_with fail
                    go_ret
                    exact ⟨ret_bool (by
                      cases q with
                      | false => rfl
                      | true => have h2 := ((HQ.out.1 rfl).2.2 k hlt).1 i hlt2; rw [HY.out] at h2; unfold okE at h2; omega), by rw [HBd.out]; exact HL2.out.below⟩
                  · go_wp2_with fail
                    go_roundw
                    case rel =>
                      refine ⟨i + 1, by omega, rfl, HL2.out, fun b hb => ?_⟩
                      by_cases e : b = i
                      · rw [e, HY.out]; unfold okE; omega
                      · exact HE2.out b (by omega)
                    case measure => simp [intOf]; omega
              · have hlt2' : ¬ (i : Int) < 5 := by omega
                obtain rfl : i = 5 := by omega
                have hrH := Lib.hid (bx_rangeK HL2.out.st .i32 (74 + k * 32) 32 (by omega) (fun j h1 h2 => kS_I j (by omega) (by omega)))
                have i32 := Lib.hid (show (Tryd.prog.info? 42).map (·.size) = some 32 from by kernel_rfl)
                go_wp2_with (refine load_mid_g rfl 42 _ rfl B (74 + k * 32) rfl _ _ hrH.out Tryd.underlying42 rfl ?hi ?_; (case hi => rw [Array.length_toList, ag_size]; exact i32.out))
                go_loopw [53] (fun cnt wr => ∃ i : Nat, i ≤ 32 ∧ cnt = .int .i64 i ∧ L2 w B st s c wr ∧ ∀ b, b < i → sat24 (st (74 + k * 32 + b)) = st (74 + k * 32 + b)) (fun cnt _ => 32 - (intOf cnt).toNat)
                case atStart => exact ⟨0, by omega, rfl, HL2.out, fun b h => by omega⟩
                case round =>
                  obtain ⟨i, hi3, rfl, hL, hH⟩ := hrel
                  have HL3 := Lib.hid hL
                  have HH3 := Lib.hid hH
                  have hw3 := hL.size
                  clear hL hH
                  by_cases hlt3 : i < 32
                  · have hlt3' : (i : Int) < 32 := by omega
                    have hix := run_index_one (P := Tryd.prog) 42 21 32 (ag (fun _ => .i32) 32 (fun i => st (74 + k * 32 + i))) i _ _ Tryd.underlying42 Tryd.underlying21 (by refine ⟨fun _ h => ?_, fun _ _ h => ?_⟩ <;> cases h) (by kernel_rfl) hlt3 (ag_get _ _ _ _ hlt3)
                    obtain ⟨y1, y2⟩ := H32.out (74 + k * 32 + i) (by omega) (by omega)
                    generalize hy : st (74 + k * 32 + i) = y at hix y1 y2
                    have HY := Lib.hid hy
                    have hsat := Lib.hid (fun w => fixSat24 y w)
                    obtain ⟨u, hu⟩ : ∃ u, sat24 y = u := ⟨_, rfl⟩
                    rw [hu] at hsat
                    have HU := Lib.hid hu
                    clear hy hu
                    by_cases he : y = u
                    · have hb1 : (y == u) = true := by simpa using he
                      have hb2 : (y != u) = false := by simpa using he
                      have HEq2 := Lib.hid he
                      clear he
                      go_wp2_with (go_at_call 94; refine (hsat.out _).mono ?_; rintro e wf ⟨rfl, hbf⟩; have HBF := Lib.hid hbf; clear hbf)
                      go_roundw
                      case rel =>
                        refine ⟨i + 1, by omega, rfl, HL3.out.keep HBF.out, fun b hb => ?_⟩
                        by_cases e : b = i
                        · rw [e, HY.out, HU.out, HEq2.out]
                        · exact HH3.out b (by omega)
                      case measure => simp [intOf]; omega
                    · have hb1 : (y == u) = false := by simpa using he
                      have hb2 : (y != u) = true := by simpa using he
                      have HEq2 := Lib.hid he
                      clear he
                      go_wp2_with (go_at_call 94; refine (hsat.out _).mono ?_; rintro e wf ⟨rfl, hbf⟩; have HBF := Lib.hid hbf; clear hbf)
                      go_ret
                      exact ⟨ret_bool (by
                        cases q with
                        | false => rfl
                        | true => have h2 := ((HQ.out.1 rfl).2.2 k hlt).2.1 i hlt3; rw [HY.out, HU.out] at h2; exact absurd h2.symm HEq2.out), by rw [HBd.out]; exact (HL3.out.keep HBF.out).below⟩
                  · have hlt3' : ¬ (i : Int) < 32 := by omega
                    obtain rfl : i = 32 := by omega
                    have r0 := ag_cell HL3.out.st (138 + k) (by omega)
                    rw [kS_I _ (by omega) (by omega)] at r0
                    have hwB : B < wr.heap.size := by omega
                    obtain ⟨y1, y2⟩ := H32.out (138 + k) (by omega) (by omega)
                    generalize hy : st (138 + k) = y at r0 y1 y2
                    have HY := Lib.hid hy
                    have hsat := Lib.hid (fun w => fixSat28 y w)
                    obtain ⟨u, hu⟩ : ∃ u, sat28 y = u := ⟨_, rfl⟩
                    rw [hu] at hsat
                    have HU := Lib.hid hu
                    clear hy hu
                    by_cases he : y = u
                    all_goals
                      have HEq2 := Lib.hid he
                      clear he
                      go_wp2_with fail
                      refine wp_region_inv [] (fun W => Below wr.heap.size wr W) (fun W W' => Below W.heap.size W W') 11 (by kernel_rfl) (by kernel_rfl) (by kernel_rfl) ((Below.refl _ _).drew) (fun W W' h h' => h.trans (h'.mono h.size)) (fun _ _ h => h.size) ?_
                      simp only [List.take_succ_cons, List.take_zero, List.drop_succ_cons, List.drop_zero]
                      refine wpInv_det (by kernel_rfl) (by kernel_rfl) ?_
                      apply Exists.intro
                      refine ⟨?_, ?_, ?_⟩
                      · intro U W hC hH
                        have hc1 := (bcell hC).1
                        have hf1 := (bcell hC).2
                        simp only [HypsU, predsOf, Region.binds, List.filterMap_cons, List.filterMap_nil, if_true, List.nil_append, List.cons_append, List.getD_cons_zero, List.getD_cons_succ] at hH
                        simp only [fillPuts, Act.put, List.setIfInBounds_toArray, List.set_cons_zero, List.set_cons_succ, Nat.reduceAdd]
                        go_wp2_with fail
                        refine ⟨rfl, rfl, by (repeat' (first | (with_reducible exact Below.refl _ _) | (with_reducible assumption) | (with_reducible refine Below.alloc ?_ ?_ _) | (with_reducible refine below_grew ?_ ?_ _) | (with_reducible refine Below.setCell ?_ ?_ _) | (with_reducible refine Below.drew ?_) | (with_reducible refine below_drewN ?_ _) | omega | (simp; done) | (simp; omega))), ?_⟩
                        conv => lhs; whnf
                        try rfl
                      · exact fun _ => rfl
                      simp only [List.nil_append, List.cons_append, Nat.reduceAdd]
                      refine wpInv_det (by kernel_rfl) (by kernel_rfl) ?_
                      apply Exists.intro
                      refine ⟨?_, ?_, ?_⟩
                      · intro U W hC hH
                        have hc1 := (bcell hC).1
                        have hf1 := (bcell hC).2
                        simp only [HypsU, predsOf, Region.binds, List.filterMap_cons, List.filterMap_nil, if_true, List.nil_append, List.cons_append, List.getD_cons_zero, List.getD_cons_succ] at hH
                        simp only [fillPuts, Act.put, List.setIfInBounds_toArray, List.set_cons_zero, List.set_cons_succ, Nat.reduceAdd]
                        go_wp2_with fail
                        refine ⟨rfl, rfl, by (repeat' (first | (with_reducible exact Below.refl _ _) | (with_reducible assumption) | (with_reducible refine Below.alloc ?_ ?_ _) | (with_reducible refine below_grew ?_ ?_ _) | (with_reducible refine Below.setCell ?_ ?_ _) | (with_reducible refine Below.drew ?_) | (with_reducible refine below_drewN ?_ _) | omega | (simp; done) | (simp; omega))), ?_⟩
                        conv => lhs; whnf
                        try rfl
                      · exact fun _ => rfl
                      simp only [List.nil_append, List.cons_append, Nat.reduceAdd]
                      refine wpInv_det (by kernel_rfl) (by kernel_rfl) ?_
                      apply Exists.intro
                      refine ⟨?_, ?_, ?_⟩
                      · intro U W hC hH
                        have hc1 := (bcell hC).1
                        have hf1 := (bcell hC).2
                        simp only [HypsU, predsOf, Region.binds, List.filterMap_cons, List.filterMap_nil, if_true, List.nil_append, List.cons_append, List.getD_cons_zero, List.getD_cons_succ] at hH
                        simp only [fillPuts, Act.put, List.setIfInBounds_toArray, List.set_cons_zero, List.set_cons_succ, Nat.reduceAdd]
                        go_wp2_with fail
                        refine ⟨rfl, rfl, by (repeat' (first | (with_reducible exact Below.refl _ _) | (with_reducible assumption) | (with_reducible refine Below.alloc ?_ ?_ _) | (with_reducible refine below_grew ?_ ?_ _) | (with_reducible refine Below.setCell ?_ ?_ _) | (with_reducible refine Below.drew ?_) | (with_reducible refine below_drewN ?_ _) | omega | (simp; done) | (simp; omega))), ?_⟩
                        conv => lhs; whnf
                        try rfl
                      · exact fun _ => rfl
                      simp only [List.nil_append, List.cons_append, Nat.reduceAdd]
                      refine wpInv_det (by kernel_rfl) (by kernel_rfl) ?_
                      apply Exists.intro
                      refine ⟨?_, ?_, ?_⟩
                      · intro U W hC hH
                        have hc1 := (bcell hC).1
                        have hf1 := (bcell hC).2
                        simp only [HypsU, predsOf, Region.binds, List.filterMap_cons, List.filterMap_nil, if_true, List.nil_append, List.cons_append, List.getD_cons_zero, List.getD_cons_succ] at hH
                        simp only [fillPuts, Act.put, List.setIfInBounds_toArray, List.set_cons_zero, List.set_cons_succ, Nat.reduceAdd]
                        go_wp2_with fail
                        refine ⟨rfl, rfl, by (repeat' (first | (with_reducible exact Below.refl _ _) | (with_reducible assumption) | (with_reducible refine Below.alloc ?_ ?_ _) | (with_reducible refine below_grew ?_ ?_ _) | (with_reducible refine Below.setCell ?_ ?_ _) | (with_reducible refine Below.drew ?_) | (with_reducible refine below_drewN ?_ _) | omega | (simp; done) | (simp; omega))), ?_⟩
                        conv => lhs; whnf
                        try rfl
                      · exact fun _ => rfl
                      simp only [List.nil_append, List.cons_append, Nat.reduceAdd]
                      refine wpInv_det (by kernel_rfl) (by kernel_rfl) ?_
                      apply Exists.intro
                      refine ⟨?_, ?_, ?_⟩
                      · intro U W hC hH
                        have hc1 := (bcell hC).1
                        have hf1 := (bcell hC).2
                        simp only [HypsU, predsOf, Region.binds, List.filterMap_cons, List.filterMap_nil, if_true, List.nil_append, List.cons_append, List.getD_cons_zero, List.getD_cons_succ] at hH
                        simp only [fillPuts, Act.put, List.setIfInBounds_toArray, List.set_cons_zero, List.set_cons_succ, Nat.reduceAdd]
                        go_wp2_with fail
                        refine ⟨rfl, rfl, by (repeat' (first | (with_reducible exact Below.refl _ _) | (with_reducible assumption) | (with_reducible refine Below.alloc ?_ ?_ _) | (with_reducible refine below_grew ?_ ?_ _) | (with_reducible refine Below.setCell ?_ ?_ _) | (with_reducible refine Below.drew ?_) | (with_reducible refine below_drewN ?_ _) | omega | (simp; done) | (simp; omega))), ?_⟩
                        conv => lhs; whnf
                        try rfl
                      · exact fun _ => rfl
                      simp only [List.nil_append, List.cons_append, Nat.reduceAdd]
                      refine wpInv_det (by kernel_rfl) (by kernel_rfl) ?_
                      apply Exists.intro
                      refine ⟨?_, ?_, ?_⟩
                      · intro U W hC hH
                        have hc1 := (bcell hC).1
                        have hf1 := (bcell hC).2
                        simp only [HypsU, predsOf, Region.binds, List.filterMap_cons, List.filterMap_nil, if_true, List.nil_append, List.cons_append, List.getD_cons_zero, List.getD_cons_succ] at hH
                        simp only [fillPuts, Act.put, List.setIfInBounds_toArray, List.set_cons_zero, List.set_cons_succ, Nat.reduceAdd]
                        go_wp2_with fail
                        refine ⟨rfl, rfl, by (repeat' (first | (with_reducible exact Below.refl _ _) | (with_reducible assumption) | (with_reducible refine Below.alloc ?_ ?_ _) | (with_reducible refine below_grew ?_ ?_ _) | (with_reducible refine Below.setCell ?_ ?_ _) | (with_reducible refine Below.drew ?_) | (with_reducible refine below_drewN ?_ _) | omega | (simp; done) | (simp; omega))), ?_⟩
                        conv => lhs; whnf
                        try rfl
                      · exact fun _ => rfl
                      simp only [List.nil_append, List.cons_append, Nat.reduceAdd]
                      refine wpInv_det (by kernel_rfl) (by kernel_rfl) ?_
                      apply Exists.intro
                      refine ⟨?_, ?_, ?_⟩
                      · intro U W hC hH
                        have hc1 := (bcell hC).1
                        have hf1 := (bcell hC).2
                        simp only [HypsU, predsOf, Region.binds, List.filterMap_cons, List.filterMap_nil, if_true, List.nil_append, List.cons_append, List.getD_cons_zero, List.getD_cons_succ] at hH
                        simp only [fillPuts, Act.put, List.setIfInBounds_toArray, List.set_cons_zero, List.set_cons_succ, Nat.reduceAdd]
                        go_wp2_with fail
                        refine ⟨rfl, rfl, by (repeat' (first | (with_reducible exact Below.refl _ _) | (with_reducible assumption) | (with_reducible refine Below.alloc ?_ ?_ _) | (with_reducible refine below_grew ?_ ?_ _) | (with_reducible refine Below.setCell ?_ ?_ _) | (with_reducible refine Below.drew ?_) | (with_reducible refine below_drewN ?_ _) | omega | (simp; done) | (simp; omega))), ?_⟩
                        conv => lhs; whnf
                        try rfl
                      · exact fun _ => rfl
                      simp only [List.nil_append, List.cons_append, Nat.reduceAdd]
                      refine wpInv_det (by kernel_rfl) (by kernel_rfl) ?_
                      apply Exists.intro
                      refine ⟨?_, ?_, ?_⟩
                      · intro U W hC hH
                        have hc1 := (bcell hC).1
                        have hf1 := (bcell hC).2
                        simp only [HypsU, predsOf, Region.binds, List.filterMap_cons, List.filterMap_nil, if_true, List.nil_append, List.cons_append, List.getD_cons_zero, List.getD_cons_succ] at hH
                        simp only [fillPuts, Act.put, List.setIfInBounds_toArray, List.set_cons_zero, List.set_cons_succ, Nat.reduceAdd]
                        go_wp2_with fail
                        refine ⟨rfl, rfl, by (repeat' (first | (with_reducible exact Below.refl _ _) | (with_reducible assumption) | (with_reducible refine Below.alloc ?_ ?_ _) | (with_reducible refine below_grew ?_ ?_ _) | (with_reducible refine Below.setCell ?_ ?_ _) | (with_reducible refine Below.drew ?_) | (with_reducible refine below_drewN ?_ _) | omega | (simp; done) | (simp; omega))), ?_⟩
                        conv => lhs; whnf
                        try rfl
                      · exact fun _ => rfl
                      simp only [List.nil_append, List.cons_append, Nat.reduceAdd]
                      refine wpInv_det (by kernel_rfl) (by kernel_rfl) ?_
                      apply Exists.intro
                      refine ⟨?_, ?_, ?_⟩
                      · intro U W hC hH
                        have hc1 := (bcell hC).1
                        have hf1 := (bcell hC).2
                        simp only [HypsU, predsOf, Region.binds, List.filterMap_cons, List.filterMap_nil, if_true, List.nil_append, List.cons_append, List.getD_cons_zero, List.getD_cons_succ] at hH
                        simp only [fillPuts, Act.put, List.setIfInBounds_toArray, List.set_cons_zero, List.set_cons_succ, Nat.reduceAdd]
                        go_wp2_with fail
                        refine ⟨rfl, rfl, by (repeat' (first | (with_reducible exact Below.refl _ _) | (with_reducible assumption) | (with_reducible refine Below.alloc ?_ ?_ _) | (with_reducible refine below_grew ?_ ?_ _) | (with_reducible refine Below.setCell ?_ ?_ _) | (with_reducible refine Below.drew ?_) | (with_reducible refine below_drewN ?_ _) | omega | (simp; done) | (simp; omega))), ?_⟩
                        conv => lhs; whnf
                        try rfl
                      · exact fun _ => rfl
                      simp only [List.nil_append, List.cons_append, Nat.reduceAdd]
                      refine wpInv_det (by kernel_rfl) (by kernel_rfl) ?_
                      apply Exists.intro
                      refine ⟨?_, ?_, ?_⟩
                      · intro U W hC hH
                        have hc1 := (bcell hC).1
                        have hf1 := (bcell hC).2
                        simp only [HypsU, predsOf, Region.binds, List.filterMap_cons, List.filterMap_nil, if_true, List.nil_append, List.cons_append, List.getD_cons_zero, List.getD_cons_succ] at hH
                        simp only [fillPuts, Act.put, List.setIfInBounds_toArray, List.set_cons_zero, List.set_cons_succ, Nat.reduceAdd]
                        go_wp2_with fail
                        refine ⟨rfl, rfl, by (repeat' (first | (with_reducible exact Below.refl _ _) | (with_reducible assumption) | (with_reducible refine Below.alloc ?_ ?_ _) | (with_reducible refine below_grew ?_ ?_ _) | (with_reducible refine Below.setCell ?_ ?_ _) | (with_reducible refine Below.drew ?_) | (with_reducible refine below_drewN ?_ _) | omega | (simp; done) | (simp; omega))), ?_⟩
                        conv => lhs; whnf
                        try rfl
                      · exact fun _ => rfl
                      simp only [List.nil_append, List.cons_append, Nat.reduceAdd]
                      refine wpInv_det (by kernel_rfl) (by kernel_rfl) ?_
                      apply Exists.intro
                      refine ⟨?_, ?_, ?_⟩
                      · intro U W hC hH
                        have hc1 := (bcell hC).1
                        have hf1 := (bcell hC).2
                        simp only [HypsU, predsOf, Region.binds, List.filterMap_cons, List.filterMap_nil, if_true, List.nil_append, List.cons_append, List.getD_cons_zero, List.getD_cons_succ] at hH
                        simp only [fillPuts, Act.put, List.setIfInBounds_toArray, List.set_cons_zero, List.set_cons_succ, Nat.reduceAdd]
                        go_wp2_with fail; refine (hsat.out _).mono ?_; rintro e w' ⟨rfl, hb1⟩; obtain ⟨x1, rfl⟩ := below_as_grew hb1; clear hb1; go_wp2_with fail
                        refine ⟨rfl, rfl, by (repeat' (first | (with_reducible exact Below.refl _ _) | (with_reducible assumption) | (with_reducible refine Below.alloc ?_ ?_ _) | (with_reducible refine below_grew ?_ ?_ _) | (with_reducible refine Below.setCell ?_ ?_ _) | (with_reducible refine Below.drew ?_) | (with_reducible refine below_drewN ?_ _) | omega | (simp; done) | (simp; omega))), ?_⟩
                        conv => lhs; whnf
                        try rfl
                      · exact fun _ => rfl
                      simp only [List.nil_append, List.cons_append, Nat.reduceAdd]
                      simp only [List.nil_append, List.cons_append, Nat.reduceAdd, fillPuts, Act.put, List.setIfInBounds_toArray, List.set_cons_zero, List.set_cons_succ]
                      rintro U W hC ⟨h0, h1, h2, h3, h4, h5, h6, h7, h8, h9, h10, -⟩ -
                      simp only [h0, h1, h2, h3, h4, h5, h6, h7, h8, h9, h10]
                      clear h0 h1 h2 h3 h4 h5 h6 h7 h8 h9 h10
                    · have hb1 : (y == u) = true := by simpa using HEq2.out
                      have hb2 : (y != u) = false := by simpa using HEq2.out
                      have HC := Lib.hid hC
                      clear hC
                      go_wp2_with fail
                      go_roundw
                      case rel =>
                        refine ⟨k + 1, by omega, rfl, HL3.out.keep HC.out, fun ch hch => ?_⟩
                        by_cases e : ch = k
                        · rw [e]
                          exact ⟨HE2.out, HH3.out, by rw [HY.out, HU.out, HEq2.out]⟩
                        · exact HALL.out ch (by omega)
                      case measure => simp [intOf]; omega
                    · have hb1 : (y == u) = false := by simpa using HEq2.out
                      have hb2 : (y != u) = true := by simpa using HEq2.out
                      have HC := Lib.hid hC
                      clear hC
                      go_wp2_with fail
                      go_ret
                      exact ⟨ret_bool (by
                        cases q with
                        | false => rfl
                        | true => have h2 := ((HQ.out.1 rfl).2.2 k hlt).2.2; rw [HY.out, HU.out] at h2; exact absurd h2.symm HEq2.out), by rw [HBd.out]; exact (HL3.out.keep HC.out).below⟩
          · have hlt' : ¬ (k : Int) < c := by omega
            obtain rfl : k = c := by omega
            go_wp2_with fail
            go_ret
            exact ⟨ret_bool (HQ.out.2 ⟨(eqB_iff _ _).1 HZ.out, by rw [HLO.out]; omega, HALL.out⟩).symm, by rw [HBd.out]; exact HL.out.below⟩
end Go.Proofs.YtcibajleknhklaaDoor
end

section
namespace Go.Proofs.YtcibajleknhklaaDoor
open Go.RowKit Go.BigFrame Go.Proofs.YtcibajleknhklaaDoorW.PrintWords Go.Proofs.YtcibajleknhklaaDoorW.PrintLast Go.Proofs.YtcibajleknhklaaDoorW.PrintMore
set_option linter.unusedSimpArgs false
set_option linter.unusedVariables false
abbrev Rt := 124
end Go.Proofs.YtcibajleknhklaaDoor
end

section
namespace Go.Proofs.YtcibajleknhklaaDoor
open Go.RowKit Go.BigFrame Go.Proofs.YtcibajleknhklaaDoorW.PrintWords Go.Proofs.YtcibajleknhklaaDoorW.PrintLast Go.Proofs.YtcibajleknhklaaDoorW.PrintMore
open PStateTells RStateTells
set_option linter.unusedSimpArgs false
set_option linter.unusedVariables false
/-- The frame: the state alone. -/
structure L1 (w : World) (B : Nat) (f : Nat → Int) (W : World) : Prop where
  below : Below B w W
  st : Bx B Rt kP 142 f W
theorem L1.keep {w B f} {W W' : World} (h : L1 w B f W) (hb : Below W.heap.size W W') : L1 w B f W' := by
  have hs := (block_facts h.st).2.2
  exact ⟨h.below.trans (hb.mono (by omega)), (hb.block _ (by omega)).trans h.st⟩
theorem L1.lt {w B f} {W : World} (h : L1 w B f W) : B < W.heap.size := (block_facts h.st).2.2
end Go.Proofs.YtcibajleknhklaaDoor
end

section
namespace Go.Proofs.YtcibajleknhklaaDoor
open Go.RowKit Go.BigFrame Go.Proofs.YtcibajleknhklaaDoorW.PrintWords Go.Proofs.YtcibajleknhklaaDoorW.PrintLast Go.Proofs.YtcibajleknhklaaDoorW.PrintMore
open PStateTells RStateTells
set_option linter.unusedSimpArgs false
set_option linter.unusedVariables false
set_option maxHeartbeats 4000000 in
set_option maxRecDepth 100000 in
theorem awake26 (w : World) (hT : FadeW w) : Calls Tryd.prog 46 #[] w fun e w' => e = .returned (.bool true) ∧ Below w.heap.size w w' := by
  have hl : ∀ w, FadeW w → Calls Tryd.prog 49 #[.agg (ag kS 142 (fun _ => 0)), .agg #[.int .i64 0, .int .i64 1]] w fun e w' => ∃ v, e = .returned (.tuple #[.agg (ag kS 142 (loseF 0 1 (fun _ => 0))), v]) ∧
      Kd.R (Kd.int .i16) 108 w' w.heap.size (fun _ => True) v (mixF (soundsF 0 (fun _ => 0) 1) (nOf 0)) ∧ Below w.heap.size w w' := fun w hT => lose_any (fun _ => 0) 0 1 (by decide) (by decide) (fun _ _ => by decide) w hT
  have HT := Lib.hid hT
  have a1 : loseF 0 1 (fun _ => 0) 140 = 1013904223 := by decide +kernel
  have a2 : loseF 0 1 (fun _ => 0) 141 = 1 := by decide +kernel
  obtain ⟨f, hf⟩ : ∃ f, loseF 0 1 (fun _ => 0) = f := ⟨_, rfl⟩
  have hm : mixF (soundsF 0 (fun _ => 0) 1) (nOf 0) = [0, 0, 0, 0, 0, 0, 0, 0] := by decide +kernel
  rw [hf] at a1 a2 hl
  rw [hm] at hl
  have hl := Lib.hid hl
  clear hT hm hf
  go_enter Tryd.func46, Tryd.ntmps46
  go_wp2_with (refine build_to rfl St _ rfl (ag kS 142 (fun _ => 0)) (by kernel_rfl) ?_)
  refine (hl.out w HT.out).mono ?_
  rintro e w1 ⟨v, rfl, hv, hb⟩
  obtain ⟨A, c, rfl, hcv, hCv⟩ := Kd.R_reads hv
  obtain ⟨ad, rfl, hc5⟩ := Kd.at_int hCv 5 (by decide) (by decide)
  have hlt := World.block_lt_of_cell? w1 _ hc5
  have e5 : rd [0, 0, 0, 0, 0, 0, 0, 0] 5 = 0 := by decide
  rw [e5, show Int.toNat 5 = 5 from rfl] at hc5
  have HB := Lib.hid hb
  clear hl hv hCv hb e5
  go_wp2_with (refine wpList_store_mid rfl St _ _ rfl w1.heap.size 0 (ag kS 142 f) rfl rfl ?hth ?hin ?hon ?_; (case hth => exact there_row (alloc_at _ _) _ (zeroS_le _)); (case hin => exact infoS_ag _); (case hon => exact ag_one kS 142 _); have q1 := cells_all (alloc_at w1 (.cells Tryd.zeroCells97 St (0, 0))) (N := 142) zeroS_size (cs := ag kS 142 f) (ag_size _ _ _); have ho := only_setCells (w1.alloc (.cells Tryd.zeroCells97 St (0, 0))) w1.heap.size 0 (ag kS 142 f).toList; have hbb : Below w1.heap.size w1 ((w1.alloc (.cells Tryd.zeroCells97 St (0, 0))).setCells w1.heap.size 0 (ag kS 142 f).toList) := ho.below (by (repeat' (first | (with_reducible exact Below.refl _ _) | (with_reducible assumption) | (with_reducible refine Below.alloc ?_ ?_ _) | (with_reducible refine below_grew ?_ ?_ _) | (with_reducible refine Below.setCell ?_ ?_ _) | (with_reducible refine Below.drew ?_) | (with_reducible refine below_drewN ?_ _) | omega | (simp; done) | (simp; omega)))) (Nat.le_refl _); generalize World.setCells (w1.alloc (.cells Tryd.zeroCells97 St (0, 0))) w1.heap.size 0 (ag kS 142 f).toList = w2 at *; have d1 := ag_cell q1 140 (by decide); have d2 := ag_cell q1 141 (by decide); rw [a1, show kS 140 = .u32 from rfl] at d1; rw [a2, show kS 141 = .i64 from rfl] at d2; have d3 : w2.cell? (ad.add 5) = some (.int .i16 0) := (hbb.cell hlt).trans hc5; unfold Addr.add at d3; rw [if_neg (by decide)] at d3; have HBB := Lib.hid hbb; clear q1 ho hbb hc5)
  go_ret
  exact ⟨by rfl, HB.out.trans (HBB.out.mono HB.out.size)⟩
end Go.Proofs.YtcibajleknhklaaDoor
end

section
namespace Go.Proofs.YtcibajleknhklaaDoor
open Go.RowKit Go.BigFrame Go.Proofs.YtcibajleknhklaaDoorW.PrintWords Go.Proofs.YtcibajleknhklaaDoorW.PrintLast Go.Proofs.YtcibajleknhklaaDoorW.PrintMore
open PStateTells RStateTells
set_option linter.unusedSimpArgs false
set_option linter.unusedVariables false
set_option maxHeartbeats 1000000 in
theorem samples26 (s : Int) (c : Nat) (hs : 0 ≤ s ∧ s ≤ 2) (hc : 1 ≤ c ∧ c ≤ 2) (w : World) : Calls Tryd.prog 50 #[.agg #[.int .i64 s, .int .i64 c]] w fun e w' => e = .returned (.int .i64 ((nOf s * c : Nat) : Int)) ∧ Below w.heap.size w w' := by
  have hN := Lib.hid (fun w => modeN26 s c hs (by omega) w)
  have hn := nOf_in s
  obtain ⟨n, hnn⟩ : ∃ n, nOf s = n := ⟨_, rfl⟩
  rw [hnn] at hN hn ⊢
  have hw : wrap64 ((n : Int) * (c : Int)) = ((n * c : Nat) : Int) := by
    rcases (show c = 1 ∨ c = 2 by omega) with h | h <;> subst h <;> unfold wrap64 <;> omega
  have HW := Lib.hid hw
  clear hw hnn
  go_enter Tryd.func50, Tryd.ntmps50
  go_upto_region 1 with fail
  first | refine wp_region_grew_all2 (by kernel_rfl) (by kernel_rfl) ?_ | refine wp_region_grew_all (by kernel_rfl) (by kernel_rfl) ?_
  repeat (go_big_quiet_step ((go_at_call 47; exact Calls.grew_of (hN.out _))))
  refine wpQuiet_nil ?_
  rintro _ ⟨x, rfl⟩
  go_wp2_with fail
  refine bodyPost_ret (v := _) (by simp [results, Tryd.results50, go_sem]; rfl) rfl ⟨?_, ?_⟩
  · rw [HW.out]
  · (repeat' (first | (with_reducible exact Below.refl _ _) | (with_reducible assumption) | (with_reducible refine Below.alloc ?_ ?_ _) | (with_reducible refine below_grew ?_ ?_ _) | (with_reducible refine Below.setCell ?_ ?_ _) | (with_reducible refine Below.drew ?_) | (with_reducible refine below_drewN ?_ _) | omega | (simp; done) | (simp; omega)))
end Go.Proofs.YtcibajleknhklaaDoor
end

section
namespace Go.Proofs.YtcibajleknhklaaDoor
open Go.RowKit Go.BigFrame Go.Proofs.YtcibajleknhklaaDoorW.PrintWords Go.Proofs.YtcibajleknhklaaDoorW.PrintLast Go.Proofs.YtcibajleknhklaaDoorW.PrintMore
open PStateTells RStateTells
set_option linter.unusedSimpArgs false
set_option linter.unusedVariables false
abbrev TX := 99
def kX (j : Nat) : IntKind := if j < 64 then .i32 else if j < 74 then .i64 else .u32
/-- The call's frame: the state, the spectrum. -/
structure LA (w : World) (B : Nat) (st X : Nat → Int) (W : World) : Prop where
  below : Below B w W
  size : B + 1 < W.heap.size
  st : Bx B St kS 142 st W
  sp : Bx (B + 1) TX kX 75 X W
theorem LA.keep {w B st X} {W W' : World} (h : LA w B st X W) (hb : Below W.heap.size W W') : LA w B st X W' := by
  have hs := h.size
  exact ⟨h.below.trans (hb.mono (by omega)), Nat.lt_of_lt_of_le hs hb.size, (hb.block _ (by omega)).trans h.st, (hb.block _ (by omega)).trans h.sp⟩
/-- .. and the mode, the other state, the other spectrum. -/
structure LB (w : World) (B m t y : Nat) (st X T Y : Nat → Int) (s : Int) (W : World) : Prop where
  la : LA w B st X W
  o1 : B + 1 < m
  o2 : m < t
  o3 : t < y
  mo : W.heap[m]? = some (.cells #[.int .i64 s, .int .i64 2] 60 (0, 0))
  tt : Bx t St kS 142 T W
  yy : Bx y TX kX 75 Y W
theorem LB.size {w B m t y st X T Y s} {W : World} (h : LB w B m t y st X T Y s W) : y < W.heap.size := (block_facts h.yy).2.2
theorem LB.keep {w B m t y st X T Y s} {W W' : World} (h : LB w B m t y st X T Y s W) (hb : Below W.heap.size W W') : LB w B m t y st X T Y s W' := by
  have h1 := h.o1
  have h2 := h.o2
  have h3 := h.o3
  have h4 := h.size
  exact ⟨h.la.keep hb, h1, h2, h3, (hb.block _ (by omega)).trans h.mo, (hb.block _ (by omega)).trans h.tt, (hb.block _ h4).trans h.yy⟩
theorem LB.m0 {w B m t y st X T Y s} {W : World} (h : LB w B m t y st X T Y s W) : W.cell? ⟨m, 0, none⟩ = some (.int .i64 s) := (block_facts h.mo).1 0
theorem LB.m1 {w B m t y st X T Y s} {W : World} (h : LB w B m t y st X T Y s W) : W.cell? ⟨m, 1, none⟩ = some (.int .i64 2) := (block_facts h.mo).1 1
theorem infoX_ag (f : Nat → Int) : (Tryd.prog.info? TX).map (·.size) = some (ag kX 75 f).size := by rw [ag_size]; kernel_rfl
theorem zeroX_size : Tryd.zeroCells99.size = 75 := by kernel_rfl
/-- A state that came, in a block, and its sound. -/
structure PR (b : Nat) (F : Nat → Int) (A : Option Addr) (L : List Int) (W : World) : Prop where
  bx : Bx b St kS 142 F W
  cc : Kd.C (Kd.int .i16) W A L.length L
theorem PR.keep {b F A L} {W W' : World} (h : PR b F A L W) (hb : Below W.heap.size W W') : PR b F A L W' := ⟨h.bx.keep hb, Kd.C_below h.cc hb⟩
section
variable {P : Program} {ops : Array Oper} {rest : List Oper} {o : Oper} {a : Act} {w : World} {Q : Exit → Act → World → Prop}
/-- A load of whole numbers out of the midst of a block. -/
theorem load_ag (hw : Region.wanted o (yielded ops a.tmps) = true) (ty : TypeId) (x : Operand) (ho : o.op = .load ty x)
    (b f : Nat) (hx : a.eval x = .pointer (some ⟨b, f, none⟩)) (κ : Nat → IntKind) (N : Nat) (g : Nat → Int) (d : TypeDesc) (hc : w.rangeAt b f (ag κ N g).toList)
    (hu : P.underlying ty = some d) (hd : d.isRow = true) (hi : (P.info? ty).map (·.size) = some N)
    (h : wpList P ops Q rest (a.put o.dst (.agg (ag κ N g))) w) : wpList P ops Q (o :: rest) a w :=
  load_mid_g hw ty x ho b f hx _ d hc hu hd (by rw [Array.length_toList, ag_size]; exact hi) (by rw [Array.toArray_toList]; exact h)
end
theorem info64' : (Tryd.prog.info? 93).map (·.size) = some 64 := by kernel_rfl
end Go.Proofs.YtcibajleknhklaaDoor
end

section
namespace Go.Proofs.YtcibajleknhklaaDoor
open Go.RowKit Go.Proofs.YtcibajleknhklaaDoorW.PrintWords
open PStateTells RStateTells
set_option linter.unusedSimpArgs false
set_option linter.unusedVariables false
/-- A place of channel d. -/
def ownC (d j : Nat) : Prop := (10 + d * 32 ≤ j ∧ j < 42 + d * 32) ∨ (74 + d * 32 ≤ j ∧ j < 106 + d * 32) ∨ j = 138 + d ∨ (d * 5 ≤ j ∧ j < d * 5 + 5)
theorem playTo_at (s : Int) (nb : Nat) (xs e st : Nat → Int) (hb : nb ≤ 5) (c d : Nat) (hc : c ≤ 2) (hd : d < c) (j : Nat) (hj : ownC d j) : playTo s nb xs e st c j = playC s nb xs e d st j := by
  unfold ownC at hj
  rcases (show c = 1 ∧ d = 0 ∨ c = 2 ∧ d = 0 ∨ c = 2 ∧ d = 1 by omega) with ⟨rfl, rfl⟩ | ⟨rfl, rfl⟩ | ⟨rfl, rfl⟩
  · rfl
  · show playC s nb xs e 1 (playC s nb xs e 0 st) j = _
    exact playC_other s nb xs e _ 1 0 hb (by omega) (by omega) (by omega) j (by omega)
  · show playC s nb xs e 1 (playTo s nb xs e st 1) j = _
    have ho : playTo s nb xs e st 1 j = st j := playTo_other s nb xs e st 1 hb (by omega) j (by omega) 1 (by omega)
    unfold playC
    rw [lapL_to s nb xs e st 1 hb (by omega), emL_to s nb xs e st 1 hb (by omega), ho]
theorem loseC_other (n nb c d : Nat) (L : Int) (st : Nat → Int) (hn : n ≤ 32) (hb : nb ≤ 5) (hc : c < 2) (hd : d < 2) (h : c ≠ d) (j : Nat) (hj : ownC d j) : loseC n nb L c st j = st j := by
  unfold ownC at hj
  unfold loseC
  rw [if_neg (by omega), if_neg (by omega), if_neg (by omega), if_neg (by omega)]
theorem loseTo_at (n nb : Nat) (L : Int) (st : Nat → Int) (hn : n ≤ 32) (hb : nb ≤ 5) (c d : Nat) (hc : c ≤ 2) (hd : d < c) (j : Nat) (hj : ownC d j) : loseTo n nb L st c j = loseC n nb L d st j := by
  rcases (show c = 1 ∧ d = 0 ∨ c = 2 ∧ d = 0 ∨ c = 2 ∧ d = 1 by omega) with ⟨rfl, rfl⟩ | ⟨rfl, rfl⟩ | ⟨rfl, rfl⟩
  · rfl
  · show loseC n nb L 1 (loseC n nb L 0 st) j = _
    exact loseC_other n nb 1 0 L _ hn hb (by omega) (by omega) (by omega) j hj
  · show loseC n nb L 1 (loseC n nb L 0 st) j = _
    have hh : histL (loseC n nb L 0 st) n 1 = histL st n 1 := loseC_hist n nb 0 1 L st hn hb (by omega) (by omega) (by omega)
    have ho : loseC n nb L 0 st j = st j := loseC_other n nb 0 1 L st hn hb (by omega) (by omega) (by omega) j hj
    generalize loseC n nb L 0 st = T at *
    unfold loseC
    rw [hh, ho]
theorem loseTo_off (n nb : Nat) (L : Int) (st : Nat → Int) (hn : n ≤ 32) (hb : nb ≤ 5) (d : Nat) (hd : d < 2) (j : Nat) (hj : ownC d j) : ∀ c, c ≤ d → loseTo n nb L st c j = st j
  | 0, _ => rfl
  | c + 1, h => by
    rw [loseTo, loseC_other n nb c d L _ hn hb (by omega) hd (by omega) j hj]
    exact loseTo_off n nb L st hn hb d hd j hj c (by omega)
theorem ok_at {l : List Int} {lo hi : Int} (h : okL lo hi l) (h0 : lo ≤ 0 ∧ 0 ≤ hi) (i : Nat) : lo ≤ l.getD i 0 ∧ l.getD i 0 ≤ hi := by
  rw [List.getD_eq_getElem?_getD]
  by_cases hi' : i < l.length
  · rw [List.getElem?_eq_getElem hi']
    exact h _ (List.getElem_mem hi')
  · rw [List.getElem?_eq_none (by omega)]
    exact h0
theorem sat24_id {x : Int} (h : -8388608 ≤ x ∧ x ≤ 8388607) : sat24 x = x := by unfold sat24; omega
theorem sat24_in {x : Int} (h : sat24 x = x) : -8388608 ≤ x ∧ x ≤ 8388607 := by unfold sat24 at h; omega
theorem sat28_id {x : Int} (h : -134217728 ≤ x ∧ x ≤ 134217727) : sat28 x = x := by unfold sat28; omega
/-- All numbers of 32 bits are. -/
def In32 (st : Nat → Int) : Prop := ∀ j, 10 ≤ j → j < 140 → -2147483648 ≤ st j ∧ st j ≤ 2147483647
/-- Right, and of 32 bits. -/
def Keep (s : Int) (c : Nat) (st : Nat → Int) : Prop := RStOk (nOf s) (nbOf s) c st ∧ In32 st
theorem own_cases (j : Nat) (h1 : 10 ≤ j) (h2 : j < 140) : ∃ d, d < 2 ∧ ownC d j := by
  unfold ownC
  by_cases a : j < 42
  · exact ⟨0, by omega, by omega⟩
  by_cases b : j < 74
  · exact ⟨1, by omega, by omega⟩
  by_cases c : j < 106
  · exact ⟨0, by omega, by omega⟩
  by_cases d : j < 138
  · exact ⟨1, by omega, by omega⟩
  by_cases e : j = 138
  · exact ⟨0, by omega, by omega⟩
  · exact ⟨1, by omega, by omega⟩
theorem keep_zero (s : Int) (c : Nat) : Keep s c (fun _ => 0) := by
  refine ⟨⟨⟨Int.le_refl 0, show (0 : Int) ≤ 1000 by decide⟩, fun ch _ => ⟨fun b _ => ⟨okE_zero, fun _ => rfl⟩, fun i _ => ⟨show sat24 0 = 0 by decide, fun _ => ⟨rfl, rfl⟩⟩, show sat28 0 = 0 by decide, fun _ => rfl⟩⟩, fun j _ _ => ⟨show (-2147483648 : Int) ≤ 0 by decide, show (0 : Int) ≤ 2147483647 by decide⟩⟩
theorem keep_play (s : Int) (hs : 0 ≤ s ∧ s ≤ 2) (c : Nat) (hc : 1 ≤ c ∧ c ≤ 2) (xs e st : Nat → Int) (sd : Int) (he : ∀ j, j < 10 → okE (e j)) (h : Keep s c st) : Keep s c (playF s c xs e sd st) := by
  have hn := nOf_in s
  have hnb : nbOf s ≤ 5 := by unfold nbOf; omega
  obtain ⟨⟨h0, h1⟩, h2⟩ := h
  have hat : ∀ d j, d < c → ownC d j → playF s c xs e sd st j = playC s (nbOf s) xs e d st j := fun d j hd hj => by
    have := hj
    unfold ownC at this
    unfold playF
    rw [if_neg (by omega), if_neg (by omega), Int.toNat_natCast]
    exact playTo_at s (nbOf s) xs e st hnb c d hc.2 hd j hj
  have hoff : ∀ d j, c ≤ d → d < 2 → ownC d j → playF s c xs e sd st j = st j := fun d j hd hd2 hj => by
    have := hj
    unfold ownC at this
    unfold playF
    rw [if_neg (by omega), if_neg (by omega), Int.toNat_natCast]
    exact playTo_other s (nbOf s) xs e st d hnb hd2 j (by omega) c hd
  refine ⟨⟨?_, fun ch hch => ?_⟩, fun j h10 h140 => ?_⟩
  · unfold playF
    rw [if_neg (by omega), if_pos rfl]
    omega
  · obtain ⟨r1, r2, r3⟩ := h1 ch hch
    by_cases hcc : ch < c
    · obtain ⟨-, l1, l2, l3, l4⟩ := lapL_some s xs st ch
      obtain ⟨-, m1, m2, m3⟩ := emL_some s xs st ch
      refine ⟨fun b hb => ?_, fun i hi => ?_, ?_⟩
      · rw [hat ch _ hcc (by unfold ownC; omega)]
        unfold playC
        rw [if_neg (by omega), if_neg (by omega), if_neg (by omega)]
        by_cases hbn : b < nbOf s
        · rw [if_pos (by omega)]
          exact ⟨he _ (by omega), fun h => by omega⟩
        · rw [if_neg (by omega)]
          exact r1 b hb
      · rw [hat ch _ hcc (by unfold ownC; omega), hat ch (10 + ch * 32 + i) hcc (by unfold ownC; omega)]
        unfold playC
        by_cases hin : i < nOf s
        · rw [if_neg (show ¬ (10 + ch * 32 ≤ 74 + ch * 32 + i ∧ 74 + ch * 32 + i < 10 + ch * 32 + nOf s) by omega), if_pos (show 74 + ch * 32 ≤ 74 + ch * 32 + i ∧ 74 + ch * 32 + i < 74 + ch * 32 + nOf s by omega)]
          exact ⟨sat24_id (ok_at l3 (by omega) _), fun h => by omega⟩
        · rw [if_neg (show ¬ (10 + ch * 32 ≤ 74 + ch * 32 + i ∧ 74 + ch * 32 + i < 10 + ch * 32 + nOf s) by omega), if_neg (show ¬ (74 + ch * 32 ≤ 74 + ch * 32 + i ∧ 74 + ch * 32 + i < 74 + ch * 32 + nOf s) by omega), if_neg (show ¬ 74 + ch * 32 + i = 138 + ch by omega), if_neg (show ¬ (ch * 5 ≤ 74 + ch * 32 + i ∧ 74 + ch * 32 + i < ch * 5 + nbOf s) by omega),
            if_neg (show ¬ (10 + ch * 32 ≤ 10 + ch * 32 + i ∧ 10 + ch * 32 + i < 10 + ch * 32 + nOf s) by omega), if_neg (show ¬ (74 + ch * 32 ≤ 10 + ch * 32 + i ∧ 10 + ch * 32 + i < 74 + ch * 32 + nOf s) by omega), if_neg (show ¬ 10 + ch * 32 + i = 138 + ch by omega), if_neg (show ¬ (ch * 5 ≤ 10 + ch * 32 + i ∧ 10 + ch * 32 + i < ch * 5 + nbOf s) by omega)]
          exact r2 i hi
      · rw [hat ch _ hcc (by unfold ownC; omega)]
        unfold playC
        rw [if_neg (by omega), if_neg (by omega), if_pos rfl]
        exact ⟨sat28_id m3, fun h => by omega⟩
    · have hcc' : c ≤ ch := by omega
      refine ⟨fun b hb => ?_, fun i hi => ?_, ?_⟩
      · rw [hoff ch _ hcc' hch (by unfold ownC; omega)]; exact r1 b hb
      · rw [hoff ch _ hcc' hch (by unfold ownC; omega), hoff ch (10 + ch * 32 + i) hcc' hch (by unfold ownC; omega)]; exact r2 i hi
      · rw [hoff ch _ hcc' hch (by unfold ownC; omega)]; exact r3
  · obtain ⟨d, hd, ho⟩ := own_cases j h10 h140
    by_cases hcc : d < c
    · rw [hat d j hcc ho]
      obtain ⟨-, l1, l2, l3, l4⟩ := lapL_some s xs st d
      obtain ⟨-, m1, m2, m3⟩ := emL_some s xs st d
      unfold playC
      split
      · exact ok_at l4 (by omega) _
      · split
        · have := ok_at l3 (by omega) (j - (74 + d * 32)); omega
        · split
          · omega
          · split
            · have := he j (by omega); unfold okE at this; omega
            · exact h2 j h10 h140
    · rw [hoff d j (by omega) hd ho]; exact h2 j h10 h140
theorem made_in (l : List Int) (L : Int) (h : ∀ x ∈ l, -8388608 ≤ x ∧ x ≤ 8388607) (i : Nat) : -8388608 ≤ madeAt l L i ∧ madeAt l L i ≤ 8388607 := by
  unfold madeAt
  have h1 : ∀ k, -8388608 ≤ hd (l.getD k 0) ∧ hd (l.getD k 0) ≤ 8388607 := fun k => by
    have := ok_at (l := l) (lo := -8388608) (hi := 8388607) h (by omega) k
    unfold hd; omega
  have h2 := h1 (l.length - lagF l + i % lagF l)
  generalize hd (l.getD (l.length - lagF l + i % lagF l) 0) = a at h2
  have h3 := fadeF_bd L
  generalize fadeF L = b at h3
  have e1 : a.natAbs ≤ 8388608 := by omega
  have e2 : b.natAbs ≤ 29491 := by omega
  have e3 : (a * b).natAbs ≤ 8388608 * 29491 := by rw [Int.natAbs_mul]; exact Nat.mul_le_mul e1 e2
  have e4 : ((a * b).tdiv 32768).natAbs = (a * b).natAbs / 32768 := by rw [Int.natAbs_tdiv]; rfl
  omega
theorem keep_lose (s : Int) (hs : 0 ≤ s ∧ s ≤ 2) (c : Nat) (hc : 1 ≤ c ∧ c ≤ 2) (st : Nat → Int) (h : Keep s c st) : Keep s c (loseF s c st) := by
  have hn := nOf_in s
  have hnb : nbOf s ≤ 5 := by unfold nbOf; omega
  obtain ⟨⟨h0, h1⟩, h2⟩ := h
  have hat : ∀ d j, d < c → ownC d j → loseF s c st j = loseC (nOf s) (nbOf s) (lossOf st) d st j := fun d j hd hj => by
    have := hj
    unfold ownC at this
    unfold loseF
    rw [if_neg (by omega), if_neg (by omega), Int.toNat_natCast]
    exact loseTo_at (nOf s) (nbOf s) _ st (by omega) hnb c d hc.2 hd j hj
  have hoff : ∀ d j, c ≤ d → d < 2 → ownC d j → loseF s c st j = st j := fun d j hd hd2 hj => by
    have := hj
    unfold ownC at this
    unfold loseF
    rw [if_neg (by omega), if_neg (by omega), Int.toNat_natCast]
    exact loseTo_off (nOf s) (nbOf s) _ st (by omega) hnb d hd2 j hj c hd
  have hmade : ∀ d, d < c → ∀ i, -8388608 ≤ madeAt (histL st (nOf s) d) (lossOf st) i ∧ madeAt (histL st (nOf s) d) (lossOf st) i ≤ 8388607 := fun d hd i => by
    refine made_in _ _ (fun x hx => ?_) i
    unfold histL at hx
    obtain ⟨k, hk, rfl⟩ := List.mem_map.1 hx
    have hk' : k < nOf s := by simpa using hk
    exact sat24_in ((h1 d (by omega)).2.1 k (by omega)).1
  refine ⟨⟨?_, fun ch hch => ?_⟩, fun j h10 h140 => ?_⟩
  · unfold loseF
    rw [if_neg (by omega), if_pos rfl]
    unfold lossOf
    omega
  · obtain ⟨r1, r2, r3⟩ := h1 ch hch
    by_cases hcc : ch < c
    · have hm := hmade ch hcc
      refine ⟨fun b hb => ?_, fun i hi => ?_, ?_⟩
      · rw [hat ch _ hcc (by unfold ownC; omega)]
        unfold loseC
        rw [if_neg (by omega), if_neg (by omega), if_neg (by omega)]
        have := r1 b hb
        unfold okE at this ⊢
        by_cases hbn : b < nbOf s
        · rw [if_pos (by omega)]
          omega
        · rw [if_neg (by omega)]
          exact this
      · rw [hat ch _ hcc (by unfold ownC; omega), hat ch (10 + ch * 32 + i) hcc (by unfold ownC; omega)]
        unfold loseC
        by_cases hin : i < nOf s
        · rw [if_neg (show ¬ (10 + ch * 32 ≤ 74 + ch * 32 + i ∧ 74 + ch * 32 + i < 10 + ch * 32 + nOf s) by omega), if_pos (show 74 + ch * 32 ≤ 74 + ch * 32 + i ∧ 74 + ch * 32 + i < 74 + ch * 32 + nOf s by omega)]
          exact ⟨sat24_id (hm _), fun h => by omega⟩
        · rw [if_neg (show ¬ (10 + ch * 32 ≤ 74 + ch * 32 + i ∧ 74 + ch * 32 + i < 10 + ch * 32 + nOf s) by omega), if_neg (show ¬ (74 + ch * 32 ≤ 74 + ch * 32 + i ∧ 74 + ch * 32 + i < 74 + ch * 32 + nOf s) by omega), if_neg (show ¬ 74 + ch * 32 + i = 138 + ch by omega), if_neg (show ¬ (ch * 5 ≤ 74 + ch * 32 + i ∧ 74 + ch * 32 + i < ch * 5 + nbOf s) by omega),
            if_neg (show ¬ (10 + ch * 32 ≤ 10 + ch * 32 + i ∧ 10 + ch * 32 + i < 10 + ch * 32 + nOf s) by omega), if_neg (show ¬ (74 + ch * 32 ≤ 10 + ch * 32 + i ∧ 10 + ch * 32 + i < 74 + ch * 32 + nOf s) by omega), if_neg (show ¬ 10 + ch * 32 + i = 138 + ch by omega), if_neg (show ¬ (ch * 5 ≤ 10 + ch * 32 + i ∧ 10 + ch * 32 + i < ch * 5 + nbOf s) by omega)]
          exact r2 i hi
      · rw [hat ch _ hcc (by unfold ownC; omega)]
        unfold loseC
        rw [if_neg (by omega), if_neg (by omega), if_pos rfl]
        exact ⟨by unfold sat28; omega, fun h => by omega⟩
    · have hcc' : c ≤ ch := by omega
      refine ⟨fun b hb => ?_, fun i hi => ?_, ?_⟩
      · rw [hoff ch _ hcc' hch (by unfold ownC; omega)]; exact r1 b hb
      · rw [hoff ch _ hcc' hch (by unfold ownC; omega), hoff ch (10 + ch * 32 + i) hcc' hch (by unfold ownC; omega)]; exact r2 i hi
      · rw [hoff ch _ hcc' hch (by unfold ownC; omega)]; exact r3
  · obtain ⟨d, hd, ho⟩ := own_cases j h10 h140
    by_cases hcc : d < c
    · rw [hat d j hcc ho]
      unfold loseC
      split
      · omega
      · split
        · have := hmade d hcc (j - (74 + d * 32)); omega
        · split
          · omega
          · split
            · omega
            · exact h2 j h10 h140
    · rw [hoff d j (by omega) hd ho]; exact h2 j h10 h140
theorem keep_E {s : Int} {c : Nat} {st : Nat → Int} (h : Keep s c st) (j : Nat) (hj : j < 10) : st j ≤ 9223372036854775807 := by
  have := ((h.1.2 (j / 5) (by omega)).1 (j % 5) (by omega)).1
  rw [show j / 5 * 5 + j % 5 = j from by omega] at this
  unfold okE at this
  omega
end Go.Proofs.YtcibajleknhklaaDoor
end

section
namespace Go.Proofs.YtcibajleknhklaaDoor
open Go.RowKit Go.BigFrame Go.Proofs.YtcibajleknhklaaDoorW.PrintWords Go.Proofs.YtcibajleknhklaaDoorW.PrintLast Go.Proofs.YtcibajleknhklaaDoorW.PrintMore
open PStateTells RStateTells
set_option linter.unusedSimpArgs false
set_option linter.unusedVariables false
abbrev TF := 106
def held31 (x : Int) : Int := if x < 0 then 0 else if 31 < x then 31 else x
theorem held31_ok (x : Int) : okE (held31 x) := by unfold okE held31; split <;> (try split) <;> omega
theorem held_any (x : Int) (w : World) : Calls Tryd.prog 54 #[.int .i64 x, .int .i64 0, .int .i64 31] w fun e w' => e = .returned (.int .i64 (held31 x)) ∧ Below w.heap.size w w' := by
  have h : spinetref01_Held.f x 0 31 = some (held31 x) := by
    unfold spinetref01_Held.f held31
    split
    · rfl
    · split
      · rfl
      · rfl
  exact (spinetref01_Held.calls x 0 31 _ w h).mono fun e w' ⟨h1, h2⟩ => ⟨h1, h2.below⟩
theorem lawMode (a b : Int) (ha : 0 ≤ a ∧ a ≤ 255) (hb : 0 ≤ b ∧ b ≤ 255) (w : World) : Calls Tryd.prog 51 #[.agg #[.int .u8 a, .int .u8 b]] w fun e w' => e = .returned (.agg #[.int .i64 (a % 3), .int .i64 (b % 2 + 1)]) ∧ Below w.heap.size w w' := by
  go_enter Tryd.func51, Tryd.ntmps51
  go_wp2_with fail
  refine bodyPost_ret (v := .agg #[.int .i64 (a % 3), .int .i64 (b % 2 + 1)]) ?_ rfl ⟨rfl, by (repeat' (first | (with_reducible exact Below.refl _ _) | (with_reducible assumption) | (with_reducible refine Below.alloc ?_ ?_ _) | (with_reducible refine below_grew ?_ ?_ _) | (with_reducible refine Below.setCell ?_ ?_ _) | (with_reducible refine Below.drew ?_) | (with_reducible refine below_drewN ?_ _) | omega | (simp; done) | (simp; omega)))⟩
  exact results_cell_row rfl _ _ (w.heap.size + 1) _ _ _ _ rfl (alloc_secondOf _ _ _) Tryd.underlying60 rfl (by kernel_rfl)
/-- The mode, and the state that is kept. -/
structure LK (w : World) (m sb : Nat) (s c : Int) (st : Nat → Int) (W : World) : Prop where
  below : Below w.heap.size w W
  om : w.heap.size ≤ m
  os : m < sb
  mo : W.heap[m]? = some (.cells #[.int .i64 s, .int .i64 c] 60 (0, 0))
  st : Bx sb St kS 142 st W
theorem LK.size {w m sb s c st} {W : World} (h : LK w m sb s c st W) : sb < W.heap.size := (block_facts h.st).2.2
theorem LK.keep {w m sb s c st} {W W' : World} (h : LK w m sb s c st W) (hb : Below W.heap.size W W') : LK w m sb s c st W' := by
  have h1 := h.om
  have h2 := h.os
  have h3 := h.size
  exact ⟨h.below.trans (hb.mono (by omega)), h1, h2, (hb.block _ (by omega)).trans h.mo, (hb.block _ h3).trans h.st⟩
theorem LK.only {w m sb s c st} {st' : Nat → Int} {W W' : World} (h : LK w m sb s c st W) (ho : Only sb W W') (hf : Bx sb St kS 142 st' W') : LK w m sb s c st' W' := by
  have h1 := h.om
  have h2 := h.os
  exact ⟨ho.below h.below (by omega), h1, h2, (ho.block _ (by omega)).trans h.mo, hf⟩
theorem LK.other {w m sb s c st} {q : Nat} {W W' : World} (h : LK w m sb s c st W) (ho : Only q W W') (hq : sb < q) : LK w m sb s c st W' := by
  have h1 := h.om
  have h2 := h.os
  exact ⟨ho.below h.below (by omega), h1, h2, (ho.block _ (by omega)).trans h.mo, (ho.block _ (by omega)).trans h.st⟩
theorem LK.m0 {w m sb s c st} {W : World} (h : LK w m sb s c st W) : W.cell? ⟨m, 0, none⟩ = some (.int .i64 s) := (block_facts h.mo).1 0
theorem LK.m1 {w m sb s c st} {W : World} (h : LK w m sb s c st W) : W.cell? ⟨m, 1, none⟩ = some (.int .i64 c) := (block_facts h.mo).1 1
/-- .. and a step's spectrum and frame. -/
structure LF (w : World) (m sb xb fb : Nat) (s c : Int) (st X : Nat → Int) (W : World) : Prop where
  lk : LK w m sb s c st W
  ox : sb < xb
  of : xb < fb
  xx : Bx xb TX kX 75 X W
  ff : ∃ zf, W.heap[fb]? = some (.cells zf TF (0, 0)) ∧ zf.size = 94 ∧ ∀ j, j < 10 → ∃ e, zf[5 + j]? = some (.int .i64 e) ∧ okE e
theorem LF.size {w m sb xb fb s c st X} {W : World} (h : LF w m sb xb fb s c st X W) : fb < W.heap.size := by
  obtain ⟨zf, h1, _⟩ := h.ff
  exact (block_facts h1).2.2
theorem LF.keep {w m sb xb fb s c st X} {W W' : World} (h : LF w m sb xb fb s c st X W) (hb : Below W.heap.size W W') : LF w m sb xb fb s c st X W' := by
  have h1 := h.ox
  have h2 := h.of
  have h3 := h.size
  obtain ⟨zf, f1, f2, f3⟩ := h.ff
  exact ⟨h.lk.keep hb, h1, h2, (hb.block _ (by omega)).trans h.xx, zf, (hb.block _ h3).trans f1, f2, f3⟩
theorem LF.store {w m sb xb fb s c st X} {W : World} (h : LF w m sb xb fb s c st X W) (j : Nat) (hj : j < 10) (x : Int) (hx : okE x) : LF w m sb xb fb s c st X (W.setCell ⟨fb, 5 + j, none⟩ (.int .i64 x)) := by
  have h1 := h.ox
  have h2 := h.of
  have ho := only_setCell W ⟨fb, 5 + j, none⟩ (.int .i64 x)
  obtain ⟨zf, f1, f2, f3⟩ := h.ff
  refine ⟨h.lk.other ho (by show sb < fb; omega), h1, h2, (ho.block _ (by show xb ≠ fb; omega)).trans h.xx, _, setCell_own W fb (5 + j) zf _ _ _ f1, by rw [Array.size_setIfInBounds]; exact f2, fun i hi => ?_⟩
  by_cases e : i = j
  · subst e
    exact ⟨x, by rw [Array.getElem?_setIfInBounds_self_of_lt (by omega)], hx⟩
  · obtain ⟨y, h3, h4⟩ := f3 i hi
    exact ⟨y, by rw [Array.getElem?_setIfInBounds_ne (by omega)]; exact h3, h4⟩
theorem LF.cell {w m sb xb fb s c st X} {W : World} (h : LF w m sb xb fb s c st X W) (j : Nat) (hj : j < 10) : (∃ e, W.cell? ⟨fb, 5 + j, none⟩ = some (.int .i64 e)) ∧ W.frozen? ⟨fb, 5 + j, none⟩ = false := by
  obtain ⟨zf, f1, f2, f3⟩ := h.ff
  obtain ⟨y, h3, h4⟩ := f3 j hj
  exact ⟨⟨y, ((block_facts f1).1 (5 + j)).trans h3⟩, (block_facts f1).2.1 _⟩
theorem range_of {w : World} {b o N : Nat} {κ : Nat → IntKind} {f : Nat → Int} (h : ∀ j, j < N → w.cell? ⟨b, o + j, none⟩ = some (.int (κ j) (f j))) : w.rangeAt b o (ag κ N f).toList := by
  intro j v hj
  rw [ag_toList] at hj
  have hj' : j < N := by
    have := (List.getElem?_eq_some_iff.1 hj).1
    simpa using this
  simp only [List.getElem?_map, List.getElem?_range hj', Option.map_some, Option.some.injEq] at hj
  subst hj
  exact h j hj'
theorem lose_keep (st : Nat → Int) (s : Int) (c : Nat) (hs : 0 ≤ s ∧ s ≤ 2) (hc : 1 ≤ c ∧ c ≤ 2) (h : Keep s c st) (w : World) (hT : FadeW w) :
    Calls Tryd.prog 49 #[.agg (ag kS 142 st), .agg #[.int .i64 s, .int .i64 c]] w fun e w' => ∃ st' A c1, Keep s c st' ∧ e = .returned (.tuple #[.agg (ag kS 142 st'), .slice A (nOf s * c) c1]) ∧ Below w.heap.size w w' := by
  refine (lose_any st s c hs hc (keep_E h) w hT).mono ?_
  rintro e w' ⟨v, rfl, hv, hb⟩
  obtain ⟨A, c1, rfl, -, -⟩ := Kd.R_reads hv
  refine ⟨_, A, c1, keep_lose s hs c hc st h, ?_, hb⟩
  rw [mixF_len]
  simp [soundsF]
theorem play_keep (st xs : Nat → Int) (sd : Int) (zf : Array Value) (s : Int) (c : Nat) (hs : 0 ≤ s ∧ s ≤ 2) (hc : 1 ≤ c ∧ c ≤ 2) (hx : ∀ i, -2147483648 ≤ xs i ∧ xs i ≤ 2147483647) (hz : ∀ j, j < 10 → ∃ e, zf[5 + j]? = some (.int .i64 e) ∧ okE e) (h : Keep s c st) (w : World) (hT : CosW w) :
    Calls Tryd.prog 48 #[.agg (ag kS 142 st), .agg #[.int .i64 s, .int .i64 c], .agg zf, .agg (ag k32 64 xs), .int .u32 sd] w fun e w' => ∃ st' A c1, Keep s c st' ∧ e = .returned (.tuple #[.agg (ag kS 142 st'), .slice A (nOf s * c) c1]) ∧ Below w.heap.size w w' := by
  obtain ⟨en, hen⟩ : ∃ en : Nat → Int, ∀ j, j < 10 → zf[5 + j]? = some (.int .i64 (en j)) ∧ okE (en j) :=
    ⟨fun j => if h : j < 10 then (hz j h).choose else 0, fun j hj => by simp only [hj, dif_pos]; exact (hz j hj).choose_spec⟩
  refine (play_any st xs en sd zf s c hs hc hx (fun j hj => (hen j hj).1) w hT).mono ?_
  rintro e w' ⟨v, rfl, hv, hb⟩
  obtain ⟨A, c1, rfl, -, -⟩ := Kd.R_reads hv
  refine ⟨_, A, c1, keep_play s hs c hc xs en st sd (fun j hj => (hen j hj).2) h, ?_, hb⟩
  rw [mixF_len]
  simp [soundsP]
theorem right_keep (st : Nat → Int) (s : Int) (c : Nat) (hs : 0 ≤ s ∧ s ≤ 2) (hc : 1 ≤ c ∧ c ≤ 2) (h : Keep s c st) (w : World) :
    Calls Tryd.prog 55 #[.agg (ag kS 142 st), .agg #[.int .i64 s, .int .i64 c]] w fun e w' => e = .returned (.bool true) ∧ Below w.heap.size w w' :=
  right_yes st s c hs hc w true ⟨fun _ => (StOk_iff _ _ c st hc.2).2 h.1, fun _ => rfl⟩ h.2
theorem zeroF_size : Tryd.zeroCells106.size = 94 := by kernel_rfl
theorem zeroF_at (j : Nat) (hj : j < 10) : Tryd.zeroCells106[5 + j]? = some (.int .i64 0) := by
  rcases (show j = 0 ∨ j = 1 ∨ j = 2 ∨ j = 3 ∨ j = 4 ∨ j = 5 ∨ j = 6 ∨ j = 7 ∨ j = 8 ∨ j = 9 by omega) with h | h | h | h | h | h | h | h | h | h <;> (subst h; kernel_rfl)
theorem infoX75 : (Tryd.prog.info? TX).map (·.size) = some 75 := by kernel_rfl
/-- The world behind a new spectrum's store. -/
theorem px_new (W : World) (F : Nat → Int) : Below W.heap.size W ((W.alloc (.cells Tryd.zeroCells99 TX (0, 0))).setCells W.heap.size 0 (ag kX 75 F).toList) ∧ Bx W.heap.size TX kX 75 F ((W.alloc (.cells Tryd.zeroCells99 TX (0, 0))).setCells W.heap.size 0 (ag kX 75 F).toList) :=
  ⟨(only_setCells _ _ _ _).below (by (repeat' (first | (with_reducible exact Below.refl _ _) | (with_reducible assumption) | (with_reducible refine Below.alloc ?_ ?_ _) | (with_reducible refine below_grew ?_ ?_ _) | (with_reducible refine Below.setCell ?_ ?_ _) | (with_reducible refine Below.drew ?_) | (with_reducible refine below_drewN ?_ _) | omega | (simp; done) | (simp; omega)))) (Nat.le_refl _), cells_all (alloc_at W _) (N := 75) zeroX_size (ag_size _ _ _)⟩
set_option maxHeartbeats 4000000 in
set_option maxRecDepth 100000 in
theorem keeps_any (a b : Int) (ha : 0 ≤ a ∧ a ≤ 255) (hb : 0 ≤ b ∧ b ≤ 255) (len cap : Nat) (A : Option Addr) (X : Nat → Nat → Int) (n2 c2 : Nat) (M : Option Addr) (L : Nat → Bool) (w : World) (hT : CosW w) (hF : FadeW w)
    (hA : 0 < len → ∃ b off, A = some ⟨b, off, none⟩ ∧ b < w.heap.size ∧ ∀ i, i < len → (∀ j, j < 75 → w.cell? ⟨b, off + i * 75 + j, none⟩ = some (.int (kX j) (X i j))) ∧ ∀ j, j < 64 → -2147483648 ≤ X i j ∧ X i j ≤ 2147483647)
    (hM : 0 < n2 → ∃ b off, M = some ⟨b, off, none⟩ ∧ b < w.heap.size ∧ ∀ i, i < n2 → w.cell? ⟨b, off + i, none⟩ = some (.bool (L i))) :
    Calls Tryd.prog 15 #[.agg #[.int .u8 a, .int .u8 b], .slice A len cap, .slice M n2 c2] w fun e w' => e = .returned (.bool true) ∧ Below w.heap.size w w' := by
  have haw := Lib.hid (fun w hT => awake26 w hT)
  have HT := Lib.hid hT
  have HF := Lib.hid hF
  have hhe := Lib.hid (fun x w => held_any x w)
  have hmd := Lib.hid (fun w => lawMode a b ha hb w)
  obtain ⟨s, hs⟩ : ∃ s, a % 3 = s := ⟨_, rfl⟩
  obtain ⟨c, hc⟩ : ∃ c : Nat, b % 2 + 1 = c := ⟨(b % 2 + 1).toNat, by omega⟩
  have hs2 : 0 ≤ s ∧ s ≤ 2 := by omega
  have hc2 : 1 ≤ c ∧ c ≤ 2 := by omega
  rw [hs, hc] at hmd
  have HAA := Lib.hid hA
  have HMM := Lib.hid hM
  clear hT hF hA hM hs hc
  go_enter Tryd.func15, Tryd.ntmps15
  go_upto_region 3 with (go_at_call 46; refine (haw.out _ (HF.out.below (by (repeat' (first | (with_reducible exact Below.refl _ _) | (with_reducible assumption) | (with_reducible refine Below.alloc ?_ ?_ _) | (with_reducible refine below_grew ?_ ?_ _) | (with_reducible refine Below.setCell ?_ ?_ _) | (with_reducible refine Below.drew ?_) | (with_reducible refine below_drewN ?_ _) | omega | (simp; done) | (simp; omega)))))).mono ?_; rintro e w' ⟨rfl, hb1⟩; obtain ⟨x1, rfl⟩ := below_as_grew hb1; clear hb1)
  refine cut_world (fun V => Below w.heap.size w V ∧ V.heap[w.heap.size]? = some (.cells #[.int .u8 a, .int .u8 b] 110 (0, 0))) ⟨by (repeat' (first | (with_reducible exact Below.refl _ _) | (with_reducible assumption) | (with_reducible refine Below.alloc ?_ ?_ _) | (with_reducible refine below_grew ?_ ?_ _) | (with_reducible refine Below.setCell ?_ ?_ _) | (with_reducible refine Below.drew ?_) | (with_reducible refine below_drewN ?_ _) | omega | (simp; done) | (simp; omega))), (World.grew_block _ _ _ (by simp)).trans (alloc_at _ _)⟩ ?_
  rintro V ⟨hV, hof⟩
  have hof0 : V.cell? ⟨w.heap.size, 0, none⟩ = some (.int .u8 a) := (block_facts hof).1 0
  have hof1 : V.cell? ⟨w.heap.size, 1, none⟩ = some (.int .u8 b) := (block_facts hof).1 1
  have hof2 := (block_facts hof).2.2
  have HV := Lib.hid hV
  clear hV hof
  by_cases h8 : 8 < len
  · have h8' : (8 : Int) < (len : Int) := by omega
    go_wp2_with fail
    go_ret
    exact ⟨rfl, HV.out⟩
  have h8'' : ¬ ((8 : Int) < (len : Int)) := by omega
  have hl8 : len ≤ 8 := by omega
  clear h8
  go_upto_region 7 with (go_at_call 51; refine (hmd.out _).mono ?_; rintro e w2 ⟨rfl, hd⟩; have HD := Lib.hid hd; clear hd)
  have hws := HV.out.size
  have hws2 := HD.out.size
  refine cut_world (fun W => LK w w2.heap.size (w2.heap.size + 1) s c (fun _ => 0) W) ⟨Below.trans HV.out ((Below.trans HD.out (Below.mono (B := w2.heap.size) (by (repeat' (first | (with_reducible exact Below.refl _ _) | (with_reducible assumption) | (with_reducible refine Below.alloc ?_ ?_ _) | (with_reducible refine below_grew ?_ ?_ _) | (with_reducible refine Below.setCell ?_ ?_ _) | (with_reducible refine Below.drew ?_) | (with_reducible refine below_drewN ?_ _) | omega | (simp; done) | (simp; omega)))) hws2)).mono hws), by omega, by omega, alloc_two _ _ _, ?_⟩ ?_
  · have := alloc_secondOf w2 (.cells #[.int .i64 s, .int .i64 c] 60 (0, 0)) (.cells Tryd.zeroCells97 St (0, 0))
    rwa [zeroS_eq] at this
  intro V1 hV1
  generalize w2.heap.size = m at *
  have HV1 := Lib.hid hV1
  clear hV1 hof0 hof1 hof2 hws hws2 HV HD hmd h8''
  have hbn := Lib.hid (fun w => bands26 s c hs2 (by omega) w)
  have hSm := Lib.hid (fun w => samples26 s c hs2 hc2 w)
  have hlo := Lib.hid (fun st h w hT => lose_keep st s c hs2 hc2 h w hT)
  have hpl := Lib.hid (fun st xs sd zf hx hz h w hT => play_keep st xs sd zf s c hs2 hc2 hx hz h w hT)
  have hri := Lib.hid (fun st h w => right_keep st s c hs2 hc2 h w)
  obtain ⟨N2, hN2⟩ : ∃ N2, nOf s * c = N2 := ⟨_, rfl⟩
  rw [hN2] at hSm hlo hpl
  clear hN2
  have hnb : nbOf s ≤ 5 := by unfold nbOf; omega
  obtain ⟨nb, hnbe⟩ : ∃ nb, nbOf s = nb := ⟨_, rfl⟩
  rw [hnbe] at hbn hnb
  clear hnbe
  go_wp2_with fail
  go_loopw [9, 10, 11, 12, 13, 14, 24] (fun v9 v10 v11 v12 v13 v14 cnt wr => ∃ (k : Nat) (st : Nat → Int), k ≤ len ∧ cnt = .int .i64 k ∧ LK w m (m + 1) s c st wr ∧ Keep s c st) (fun _ _ _ _ _ _ cnt _ => len - (intOf cnt).toNat)
  case atStart => exact ⟨0, _, by omega, rfl, HV1.out, keep_zero s c⟩
  case round =>
    clear HV1
    obtain ⟨k, st, hk, rfl, hL, hKp⟩ := hrel
    have HL := Lib.hid hL
    have HK := Lib.hid hKp
    have hk0 : (0 : Int) ≤ k := by omega
    clear hL hKp
    by_cases hlt : k < len
    · have hlt' : (k : Int) < len := by omega
      obtain ⟨bk, off, rfl, hbk, hX⟩ := HAA.out (by omega)
      have HX := Lib.hid hX
      clear hX
      have hrX : wr.rangeAt bk (off + k * 75) (ag kX 75 (X k)).toList := range_of fun j hj => (HL.out.below.cell (p := ⟨bk, off + k * 75 + j, none⟩) hbk).trans ((HX.out k hlt).1 j hj)
      have HRX := Lib.hid hrX
      have hxb : ∀ i, -2147483648 ≤ (if i < 64 then X k i else 0) ∧ (if i < 64 then X k i else 0) ≤ 2147483647 := fun i => by split; (rename_i h; exact (HX.out k hlt).2 i h); (omega)
      have HXB := Lib.hid hxb
      clear hrX hxb hlt
      go_upto_region 10 with (first | (refine load_ag rfl TX _ rfl bk (off + k * 75) rfl kX 75 (X k) _ HRX.out Tryd.underlying99 rfl infoX75 ?_) | (refine wpList_store_mid rfl TX _ _ rfl wr.heap.size 0 (ag kX 75 (X k)) rfl rfl ?hth ?hin3 ?hon ?_; (case hth => exact there_row (alloc_at _ _) _ (by rw [ag_size, zeroX_size]; exact Nat.le_refl _)); (case hin3 => exact infoX_ag _); (case hon => exact ag_one kX 75 _)))
      obtain ⟨q1, q2⟩ := px_new wr (X k)
      have hsz := HL.out.size
      refine cut_world (fun W => LK w m (m + 1) s c st W ∧ Bx wr.heap.size TX kX 75 (X k) W) ⟨HL.out.keep q1, q2⟩ ?_
      clear q1 q2 HL HRX
      generalize wr.heap.size = xb at *
      rintro V2 ⟨hL2, hx2⟩
      have HL2 := Lib.hid hL2
      have HX2 := Lib.hid hx2
      clear hL2 hx2
      go_upto_region 11 with fail
      have hx2s := (block_facts HX2.out).2.2
      refine cut_world (fun W => LF w m (m + 1) xb V2.heap.size s c st (X k) W) ⟨HL2.out.keep (by (repeat' (first | (with_reducible exact Below.refl _ _) | (with_reducible assumption) | (with_reducible refine Below.alloc ?_ ?_ _) | (with_reducible refine below_grew ?_ ?_ _) | (with_reducible refine Below.setCell ?_ ?_ _) | (with_reducible refine Below.drew ?_) | (with_reducible refine below_drewN ?_ _) | omega | (simp; done) | (simp; omega)))), hsz, hx2s, (alloc_old V2 _ _ hx2s).trans HX2.out, _, alloc_at _ _, zeroF_size, fun j hj => ⟨0, zeroF_at j hj, okE_zero⟩⟩ ?_
      clear HL2 HX2 hx2s hsz
      generalize V2.heap.size = fb at *
      intro V3 hV3
      have HV3 := Lib.hid hV3
      clear hV3
      go_wp2_with fail
      go_loopw [12, 13] (fun v12 v13 wr => ∃ ch : Nat, ch ≤ c ∧ v12 = .int .i64 ch ∧ LF w m (m + 1) xb fb s c st (X k) wr) (fun v12 _ _ => c - (intOf v12).toNat)
      case atStart => exact ⟨0, by omega, rfl, HV3.out⟩
      case round =>
        clear HV3
        obtain ⟨ch, hch, rfl, hf⟩ := hrel
        have HLF := Lib.hid hf
        have hm1 := hf.lk.m1
        have hm0 := hf.lk.m0
        have hch0 : (0 : Int) ≤ ch := by omega
        clear hf
        by_cases hcl : ch < c
        · have hcl' : (ch : Int) < c := by omega
          have hch2 : (ch : Int) < 2 := by omega
          go_wp2_with fail
          clear hm0 hm1
          go_loopw [13] (fun v13 wr => ∃ bb : Nat, bb ≤ nb ∧ v13 = .int .i64 bb ∧ LF w m (m + 1) xb fb s c st (X k) wr) (fun v13 _ => nb - (intOf v13).toNat)
          case atStart => exact ⟨0, by omega, rfl, HLF.out⟩
          case round =>
            clear HLF
            obtain ⟨bb, hbb, rfl, hf⟩ := hrel
            have HLF := Lib.hid hf
            have hm1 := hf.lk.m1
            have hm0 := hf.lk.m0
            have hbb0 : (0 : Int) ≤ bb := by omega
            clear hf
            by_cases hbl : bb < nb
            · have hbl' : (bb : Int) < nb := by omega
              have hbb5 : (bb : Int) < 5 := by omega
              go_upto_region 17 with (go_at_call 53; refine (hbn.out _).mono ?_; rintro e wn ⟨rfl, hbnd⟩; have HYN := Lib.hid (HLF.out.keep hbnd); clear hbnd)
              have r0 := ag_cell HYN.out.xx (64 + ch * 5 + bb) (by omega)
              rw [show kX (64 + ch * 5 + bb) = .i64 from by unfold kX; rw [if_neg (by omega), if_pos (by omega)]] at r0
              have hxw := (block_facts HYN.out.xx).2.2
              clear hm0 hm1 hbl'
              first | refine wp_region_grew2 12 (by kernel_rfl) (by kernel_rfl) ?_ | refine wp_region_grew 12 (by kernel_rfl) (by kernel_rfl) ?_
              simp only [List.take_succ_cons, List.take_zero, List.drop_succ_cons, List.drop_zero]
              repeat (go_big_quiet_step ((go_at_call 54; exact Calls.grew_of (hhe.out _ _))))
              refine wpQuiet_nil ?_
              rintro _ ⟨x, rfl⟩
              have hq := HYN.out.keep (W' := wn.grew x) (by (repeat' (first | (with_reducible exact Below.refl _ _) | (with_reducible assumption) | (with_reducible refine Below.alloc ?_ ?_ _) | (with_reducible refine below_grew ?_ ?_ _) | (with_reducible refine Below.setCell ?_ ?_ _) | (with_reducible refine Below.drew ?_) | (with_reducible refine below_drewN ?_ _) | omega | (simp; done) | (simp; omega))))
              obtain ⟨⟨ee, hce⟩, hfe⟩ := hq.cell (ch * 5 + bb) (by omega)
              have hl := hq.store (ch * 5 + bb) (by omega) (held31 (X k (64 + ch * 5 + bb))) (held31_ok _)
              rw [show 5 + (ch * 5 + bb) = 5 + ch * 5 + bb from by omega] at hce hfe hl
              have HLL := Lib.hid hl
              clear hq hl
              go_upto_region 16 with fail
              clear hce hfe r0
              refine cut_world (fun W => LF w m (m + 1) xb fb s c st (X k) W) HLL.out ?_
              clear HLL HYN hxw
              intro V5 hV5
              have HV5 := Lib.hid hV5
              clear hV5
              go_wp2_with fail
              go_roundw
              case rel => exact ⟨bb + 1, by omega, rfl, HV5.out⟩
              case measure => simp [intOf]; omega
            · have hbl' : ¬ (bb : Int) < nb := by omega
              clear hbl
              go_upto_region 13 with (go_at_call 53; refine (hbn.out _).mono ?_; rintro e wn ⟨rfl, hbnd⟩; have HYN := Lib.hid (HLF.out.keep hbnd); clear hbnd)
              clear hm0 hm1 hbl'
              go_wp2_with fail
              go_roundw
              case rel => exact ⟨ch + 1, by omega, rfl, HYN.out⟩
              case measure => simp [intOf]; omega
        · have hcl' : ¬ (ch : Int) < c := by omega
          clear hcl
          go_upto_region 19 with fail
          clear hcl'
          by_cases hk2 : k < n2 ∧ L k = true
          · obtain ⟨hk2, hLk⟩ := hk2
            have hk2' : (k : Int) < n2 := by omega
            obtain ⟨bm, om, rfl, hbm, hMc⟩ := HMM.out (by omega)
            have hcm := (HLF.out.lk.below.cell (p := ⟨bm, om + k, none⟩) hbm).trans (hMc k hk2)
            rw [hLk] at hcm
            clear hMc hLk hk2
            go_upto_region 20 with fail
            clear hcm hk2'
            go_wp2_with ((refine load_row_g rfl St _ rfl (m + 1) rfl _ (ag kS 142 st) (0, 0) _ HLF.out.lk.st Tryd.underlying97 rfl ?hin ?_; (case hin => exact infoS_ag _)))
            refine (hlo.out st HK.out _ (HF.out.below HLF.out.lk.below)).mono ?_
            rintro e wp ⟨st', A1, c1, hk2, rfl, hb⟩
            have HK2 := Lib.hid hk2
            have hlk := HLF.out.lk.keep hb
            have HLK := Lib.hid hlk
            clear hb hk2 hlk HLF HK hm0 hm1
            go_upto_region 22 with (refine wpList_store_mid rfl St _ _ rfl (m + 1) 0 (ag kS 142 st') rfl rfl ?hth ?hin ?hon ?_; (case hth => exact there_row HLK.out.st _ (by rw [ag_size, ag_size]; exact Nat.le_refl _)); (case hin => exact infoS_ag _); (case hon => exact ag_one kS 142 _))
            refine cut_world (fun W => LK w m (m + 1) s c st' W) (HLK.out.only (only_setCells _ _ _ _) (cells_all HLK.out.st (N := 142) (ag_size _ _ _) (ag_size _ _ _))) ?_
            clear HLK
            intro V6 hV6
            have hm0 := hV6.m0
            have hm1 := hV6.m1
            have hmm := (block_facts hV6.mo).2.2
            have HV6 := Lib.hid hV6
            clear hV6
            go_wp2_with (first | (refine load_row_g rfl St _ rfl (m + 1) rfl _ (ag kS 142 st') (0, 0) _ HV6.out.st Tryd.underlying97 rfl ?hin ?_; (case hin => exact infoS_ag _)) | (go_at_call 55; refine (hri.out _ HK2.out _).mono ?_; rintro e w' ⟨rfl, hb1⟩; obtain ⟨x1, rfl⟩ := below_as_grew hb1; clear hb1) | (go_at_call 50; refine (hSm.out _).mono ?_; rintro e w' ⟨rfl, hb1⟩; obtain ⟨x1, rfl⟩ := below_as_grew hb1; clear hb1))
            go_roundw
            case rel => exact ⟨k + 1, st', by omega, rfl, HV6.out.keep (by (repeat' (first | (with_reducible exact Below.refl _ _) | (with_reducible assumption) | (with_reducible refine Below.alloc ?_ ?_ _) | (with_reducible refine below_grew ?_ ?_ _) | (with_reducible refine Below.setCell ?_ ?_ _) | (with_reducible refine Below.drew ?_) | (with_reducible refine below_drewN ?_ _) | omega | (simp; done) | (simp; omega)))), HK2.out⟩
            case measure => simp [intOf]; omega
          by_cases hk3 : k < n2
          · have hLk : L k = false := by
              cases hq : L k
              · rfl
              · exact absurd ⟨hk3, hq⟩ hk2
            have hk2' : (k : Int) < n2 := by omega
            obtain ⟨bm, om, rfl, hbm, hMc⟩ := HMM.out (by omega)
            have hcm := (HLF.out.lk.below.cell (p := ⟨bm, om + k, none⟩) hbm).trans (hMc k hk3)
            rw [hLk] at hcm
            clear hMc hLk hk2 hk3
            go_upto_region 21 with fail
            clear hcm hk2'
            obtain ⟨zf, z1, z2, z3⟩ := HLF.out.ff
            have Z1 := Lib.hid z1
            have Z2 := Lib.hid z2
            have Z3 := Lib.hid z3
            have hxn : wr.rangeAt xb 0 (ag k32 64 (fun i => if i < 64 then X k i else 0)).toList := by
              have := bx_rangeK HLF.out.xx .i32 0 64 (by omega) (fun j h1 h2 => by unfold kX; rw [if_pos (by omega)])
              rwa [ag_ext (fun _ => .i32) 64 _ (fun i => if i < 64 then X k i else 0) (fun i hi => by rw [if_pos hi, Nat.zero_add])] at this
            have HXN := Lib.hid hxn
            have hsd : wr.cell? ⟨xb, 74, none⟩ = some (.int .u32 (X k 74)) := ag_cell HLF.out.xx 74 (by omega)
            clear z1 z2 z3 hxn
            go_wp2_with (first | (refine load_row_g rfl St _ rfl (m + 1) rfl _ (ag kS 142 st) (0, 0) _ HLF.out.lk.st Tryd.underlying97 rfl ?hin ?_; (case hin => exact infoS_ag _)) | (refine load_row_g rfl TF _ rfl fb rfl _ zf (0, 0) _ Z1.out Tryd.underlying106 rfl ?hin ?_; (case hin => rw [Z2.out]; kernel_rfl)) | (refine load_ag rfl 93 _ rfl xb 0 rfl k32 64 (fun i => if i < 64 then X k i else 0) _ HXN.out Tryd.underlying93 rfl info64' ?_))
            clear hsd
            refine (hpl.out st _ _ zf HXB.out Z3.out HK.out _ (HT.out.below HLF.out.lk.below)).mono ?_
            clear Z1 Z2 Z3 HXN
            rintro e wp ⟨st', A1, c1, hk2, rfl, hb⟩
            have HK2 := Lib.hid hk2
            have hlk := HLF.out.lk.keep hb
            have HLK := Lib.hid hlk
            clear hb hk2 hlk HLF HK hm0 hm1
            go_upto_region 22 with (refine wpList_store_mid rfl St _ _ rfl (m + 1) 0 (ag kS 142 st') rfl rfl ?hth ?hin ?hon ?_; (case hth => exact there_row HLK.out.st _ (by rw [ag_size, ag_size]; exact Nat.le_refl _)); (case hin => exact infoS_ag _); (case hon => exact ag_one kS 142 _))
            refine cut_world (fun W => LK w m (m + 1) s c st' W) (HLK.out.only (only_setCells _ _ _ _) (cells_all HLK.out.st (N := 142) (ag_size _ _ _) (ag_size _ _ _))) ?_
            clear HLK
            intro V6 hV6
            have hm0 := hV6.m0
            have hm1 := hV6.m1
            have hmm := (block_facts hV6.mo).2.2
            have HV6 := Lib.hid hV6
            clear hV6
            go_wp2_with (first | (refine load_row_g rfl St _ rfl (m + 1) rfl _ (ag kS 142 st') (0, 0) _ HV6.out.st Tryd.underlying97 rfl ?hin ?_; (case hin => exact infoS_ag _)) | (go_at_call 55; refine (hri.out _ HK2.out _).mono ?_; rintro e w' ⟨rfl, hb1⟩; obtain ⟨x1, rfl⟩ := below_as_grew hb1; clear hb1) | (go_at_call 50; refine (hSm.out _).mono ?_; rintro e w' ⟨rfl, hb1⟩; obtain ⟨x1, rfl⟩ := below_as_grew hb1; clear hb1))
            go_roundw
            case rel => exact ⟨k + 1, st', by omega, rfl, HV6.out.keep (by (repeat' (first | (with_reducible exact Below.refl _ _) | (with_reducible assumption) | (with_reducible refine Below.alloc ?_ ?_ _) | (with_reducible refine below_grew ?_ ?_ _) | (with_reducible refine Below.setCell ?_ ?_ _) | (with_reducible refine Below.drew ?_) | (with_reducible refine below_drewN ?_ _) | omega | (simp; done) | (simp; omega)))), HK2.out⟩
            case measure => simp [intOf]; omega
          · have hk2' : ¬ (k : Int) < n2 := by omega
            clear hk2 hk3
            go_upto_region 21 with fail
            clear hk2'
            obtain ⟨zf, z1, z2, z3⟩ := HLF.out.ff
            have Z1 := Lib.hid z1
            have Z2 := Lib.hid z2
            have Z3 := Lib.hid z3
            have hxn : wr.rangeAt xb 0 (ag k32 64 (fun i => if i < 64 then X k i else 0)).toList := by
              have := bx_rangeK HLF.out.xx .i32 0 64 (by omega) (fun j h1 h2 => by unfold kX; rw [if_pos (by omega)])
              rwa [ag_ext (fun _ => .i32) 64 _ (fun i => if i < 64 then X k i else 0) (fun i hi => by rw [if_pos hi, Nat.zero_add])] at this
            have HXN := Lib.hid hxn
            have hsd : wr.cell? ⟨xb, 74, none⟩ = some (.int .u32 (X k 74)) := ag_cell HLF.out.xx 74 (by omega)
            clear z1 z2 z3 hxn
            go_wp2_with (first | (refine load_row_g rfl St _ rfl (m + 1) rfl _ (ag kS 142 st) (0, 0) _ HLF.out.lk.st Tryd.underlying97 rfl ?hin ?_; (case hin => exact infoS_ag _)) | (refine load_row_g rfl TF _ rfl fb rfl _ zf (0, 0) _ Z1.out Tryd.underlying106 rfl ?hin ?_; (case hin => rw [Z2.out]; kernel_rfl)) | (refine load_ag rfl 93 _ rfl xb 0 rfl k32 64 (fun i => if i < 64 then X k i else 0) _ HXN.out Tryd.underlying93 rfl info64' ?_))
            clear hsd
            refine (hpl.out st _ _ zf HXB.out Z3.out HK.out _ (HT.out.below HLF.out.lk.below)).mono ?_
            clear Z1 Z2 Z3 HXN
            rintro e wp ⟨st', A1, c1, hk2, rfl, hb⟩
            have HK2 := Lib.hid hk2
            have hlk := HLF.out.lk.keep hb
            have HLK := Lib.hid hlk
            clear hb hk2 hlk HLF HK hm0 hm1
            go_upto_region 22 with (refine wpList_store_mid rfl St _ _ rfl (m + 1) 0 (ag kS 142 st') rfl rfl ?hth ?hin ?hon ?_; (case hth => exact there_row HLK.out.st _ (by rw [ag_size, ag_size]; exact Nat.le_refl _)); (case hin => exact infoS_ag _); (case hon => exact ag_one kS 142 _))
            refine cut_world (fun W => LK w m (m + 1) s c st' W) (HLK.out.only (only_setCells _ _ _ _) (cells_all HLK.out.st (N := 142) (ag_size _ _ _) (ag_size _ _ _))) ?_
            clear HLK
            intro V6 hV6
            have hm0 := hV6.m0
            have hm1 := hV6.m1
            have hmm := (block_facts hV6.mo).2.2
            have HV6 := Lib.hid hV6
            clear hV6
            go_wp2_with (first | (refine load_row_g rfl St _ rfl (m + 1) rfl _ (ag kS 142 st') (0, 0) _ HV6.out.st Tryd.underlying97 rfl ?hin ?_; (case hin => exact infoS_ag _)) | (go_at_call 55; refine (hri.out _ HK2.out _).mono ?_; rintro e w' ⟨rfl, hb1⟩; obtain ⟨x1, rfl⟩ := below_as_grew hb1; clear hb1) | (go_at_call 50; refine (hSm.out _).mono ?_; rintro e w' ⟨rfl, hb1⟩; obtain ⟨x1, rfl⟩ := below_as_grew hb1; clear hb1))
            go_roundw
            case rel => exact ⟨k + 1, st', by omega, rfl, HV6.out.keep (by (repeat' (first | (with_reducible exact Below.refl _ _) | (with_reducible assumption) | (with_reducible refine Below.alloc ?_ ?_ _) | (with_reducible refine below_grew ?_ ?_ _) | (with_reducible refine Below.setCell ?_ ?_ _) | (with_reducible refine Below.drew ?_) | (with_reducible refine below_drewN ?_ _) | omega | (simp; done) | (simp; omega)))), HK2.out⟩
            case measure => simp [intOf]; omega
    · have hlt' : ¬ (k : Int) < len := by omega
      clear hlt
      go_wp2_with fail
      go_ret
      exact ⟨rfl, HL.out.below⟩
end Go.Proofs.YtcibajleknhklaaDoor
end

section
namespace Go
open Go.RowKit
set_option linter.unusedSimpArgs false
section
variable {H : Type} {enc : TypeId × Value → H} {P : Program} {w : World} {base : Nat} {spare : Nat → Bool} {held : Bool}
theorem addr_add (b off x : Nat) : (⟨b, off, none⟩ : Addr).add x = ⟨b, off + x, none⟩ := by
  unfold Addr.add
  split
  · rename_i h; subst h; rfl
  · rfl
theorem cells?_at {a : Addr} {n : Nat} {cs : List Value} (h : w.cells? base a n = some cs) : base ≤ a.block ∧ cs.length = n ∧ ∀ i, i < n → w.cell? (a.add i) = cs[i]? := by
  unfold World.cells? at h
  split at h
  · rename_i hb
    have h1 := mapM_some_length h
    have h2 := mapM_some_get h
    rw [List.length_range] at h1
    exact ⟨hb, h1, fun i hi => h2 i i (by rw [List.getElem?_range hi])⟩
  · cases h
/-- A slice whose elements are flat: where it lies, and each element's cells. -/
theorem open_flat_slice {r : Reach} {b0 : Nat} {t e : TypeId} {v : Value} {dd : DataW H} {p : List MemPlace} (d : Nat) (ls : List Leaf) (ht : P.underlying t = some (.slice e)) (hl : layout P d e = some ls) (hpos : 0 < ls.length)
    (hv : Value.okWide P w r b0 t v) (h : DataW.Trod enc P w base spare held t v dd p) :
    ∃ A len cap, v = .slice A len cap ∧ len ≤ cap ∧ cap ≤ maxLen ∧ (0 < len → ∃ b off, A = some ⟨b, off, none⟩ ∧ base ≤ b ∧ b < w.heap.size ∧ ∀ i, i < len → ∃ cs : List Value, fitAllW ls cs = true ∧ ∀ j, j < ls.length → w.cell? ⟨b, off + i * ls.length + j, none⟩ = cs[j]?) := by
  obtain ⟨fuel, hf⟩ := h
  have hne : v.cells.toList = [v] := by
    cases v with
    | agg cs => simp [Value.okWide, ht, Cell.okWide, Cell.ok] at hv
    | _ => rfl
  rw [hne] at hf
  rcases DataW.trod_slice ht hf with ⟨hcs, _⟩ | ⟨a, len, cap, elems, rest, n, _, hcs, _, hb, hle, hm, hlen, hel, _, _⟩
  · obtain rfl : v = .slice none 0 0 := by simpa using hcs
    exact ⟨none, 0, 0, rfl, Nat.le_refl _, by unfold maxLen; omega, fun h => absurd h (by omega)⟩
  · obtain rfl : v = .slice (some a) len cap := by simpa using hcs
    refine ⟨some a, len, cap, rfl, hle, hm, fun hp => ?_⟩
    have hce := layout_cells hl
    have each : ∀ i, i < len → ∃ cs : List Value, fitAllW ls cs = true ∧ ∀ j, j < ls.length → w.cell? ((a.add (i * ls.length)).add j) = cs[j]? := fun i hi => by
      have h1 := hel i hi
      rw [List.getElem?_eq_getElem (by omega)] at h1
      obtain ⟨cs, h2, h3⟩ := Option.bind_eq_some_iff.1 h1
      rw [hce] at h2
      obtain ⟨_, h4, h5⟩ := cells?_at h2
      exact ⟨cs, flat_of_trod d n e ls cs _ hl h3, h5⟩
    -- the address is a cell's
    have hs : a.spot = none ∧ a.block < w.heap.size := by
      obtain ⟨cs, h1, h2⟩ := each 0 hp
      have h3 := h2 0 hpos
      have h4 := fitAllW_length h1
      rw [List.getElem?_eq_getElem (by omega)] at h3
      have e : (a.add (0 * ls.length)).add 0 = a := by simp [Addr.add]
      rw [e] at h3
      refine ⟨?_, World.block_lt_of_cell? w a h3⟩
      unfold World.cell? at h3
      split at h3
      · split at h3
        · cases h3
        · rename_i hh
          cases hsp : a.spot with
          | none => rfl
          | some x => rw [hsp] at hh; simp at hh
      · cases h3
    obtain ⟨b, off, sp⟩ := a
    obtain ⟨hs1, hs2⟩ := hs
    simp only at hs1 hs2
    subst hs1
    refine ⟨b, off, rfl, hb, hs2, fun i hi => ?_⟩
    obtain ⟨cs, h1, h2⟩ := each i hi
    refine ⟨cs, h1, fun j hj => ?_⟩
    have e : ((⟨b, off, none⟩ : Addr).add (i * ls.length)).add j = ⟨b, off + i * ls.length + j, none⟩ := by
      rw [addr_add, addr_add]
    rw [← e]
    exact h2 j hj
end
/-- The whole number behind an address. -/
def intCell (w : World) (A : Option Addr) (k : Nat) : Int := match A with | some a => intOf ((w.cell? ⟨a.block, a.off + k, none⟩).getD (.bool false)) | none => 0
/-- What 'open_flat_slice' tells, cell by cell, as whole numbers. -/
theorem int_cells {w : World} {A : Option Addr} {len base : Nat} {ls : List Leaf} (h : 0 < len → ∃ b off, A = some ⟨b, off, none⟩ ∧ base ≤ b ∧ b < w.heap.size ∧ ∀ i, i < len → ∃ cs : List Value, fitAllW ls cs = true ∧ ∀ j, j < ls.length → w.cell? ⟨b, off + i * ls.length + j, none⟩ = cs[j]?) :
    0 < len → ∃ b off, A = some ⟨b, off, none⟩ ∧ b < w.heap.size ∧ ∀ i, i < len → ∀ (j : Nat) (k : IntKind), ls[j]? = some (.int k) → w.cell? ⟨b, off + i * ls.length + j, none⟩ = some (.int k (intCell w A (i * ls.length + j))) ∧ (Lit.int k (intCell w A (i * ls.length + j))).wf = true := by
  intro hp
  obtain ⟨b, off, rfl, _, hb, hc⟩ := h hp
  refine ⟨b, off, rfl, hb, fun i hi j k hj => ?_⟩
  obtain ⟨cs, h1, h2⟩ := hc i hi
  obtain ⟨n, h3, h4⟩ := fitAllW_at j k h1 hj
  have h5 := h2 j (List.getElem?_eq_some_iff.1 hj).1
  rw [h3] at h5
  have h6 : intCell w (some ⟨b, off, none⟩) (i * ls.length + j) = n := by
    unfold intCell
    simp only
    rw [← Nat.add_assoc, h5]
    rfl
  rw [h6]
  exact ⟨h5, h4⟩
end Go
end

section
namespace Go
open Go.RowKit Go.ChangeShapes Go.WideShapes
/-- All arguments read again. -/
theorem trodAll_below {H : Type} {enc : TypeId × Value → H} {P : Program} (hl : laidOutB P = true) {W W' : World} (hb : Below W.heap.size W W') :
    ∀ (ts : List TypeId) (vs : List Value) (ds : List (DataW H)) (ps : List MemPlace), (ts.all fun t => P.readableRec t && decide (t < P.types.size)) = true →
      DataW.TrodAll enc P W 0 (fun _ => true) true ts vs ds ps → (∀ x ∈ ps, x.block < W.heap.size) → DataW.TrodAll enc P W' 0 (fun b => decide (b < W.heap.size)) true ts vs ds ps
  | [], vs, ds, ps, _, h, _ => by
    obtain ⟨rfl, rfl, rfl⟩ := trodAll_nil h
    exact trodAll_mk0
  | t :: ts, vs, ds, ps, hr, h, hlt => by
    simp only [List.all_cons, Bool.and_eq_true, decide_eq_true_eq] at hr
    obtain ⟨v, vs', d, ds', p, q, rfl, rfl, rfl, h1, h2⟩ := trodAll_cons h
    exact trodAll_cons_mk (Below.trod hl hr.1.1 hr.1.2 h1 hb (fun x hx => hlt x (List.mem_append_left _ hx))) (trodAll_below hl hb ts vs' ds' q hr.2 h2 (fun x hx => hlt x (List.mem_append_right _ hx)))
end Go
end

section
namespace Go.Proofs.YtcibajleknhklaaDoor
open Go.RowKit
theorem fades_of {W : World} {rest : List (String × DataW Unit)} (h : laidMet Tryd.prog (("spinet/conceal.fades", Rows.laid_spinet_conceal_fades) :: rest) W) : FadeW W := by
  have hT := Lib.tabIs_of_head (P := Tryd.prog) (g := 2) (t := 214) (e := 21) (n := 5) (k := .i32) (zs := fadL) (by kernel_rfl) (by kernel_rfl) Tryd.underlying214 Tryd.underlying21 (by kernel_rfl) (by kernel_rfl) h
  have hc := fun i hi => hT.cell (g := 2) (by kernel_rfl) i hi
  exact ⟨World.block_lt_of_cell? W ⟨2, 0, none⟩ (hc 0 (by decide)), hc⟩
end Go.Proofs.YtcibajleknhklaaDoor
end

section
namespace Go.Proofs.YtcibajleknhklaaDoor
open Go.RowKit
theorem cosines_of {W : World} {rest : List (String × DataW Unit)} (h : laidMet Tryd.prog (("spinet/cis.cosines", Rows.laid_spinet_cis_cosines) :: rest) W) : CosW W := by
  have hT := Lib.tabIs_of_head (P := Tryd.prog) (g := 0) (t := 207) (e := 2) (n := 65) (k := .i64) (zs := cosL) (by kernel_rfl) (by kernel_rfl) Tryd.underlying207 Tryd.underlying2 (by kernel_rfl) (by kernel_rfl) h
  have hc := fun i hi => hT.cell (g := 0) (by kernel_rfl) i hi
  exact ⟨World.block_lt_of_cell? W ⟨0, 0, none⟩ (hc 0 (by decide)), hc⟩
end Go.Proofs.YtcibajleknhklaaDoor
end

section
namespace Go.Proofs.YtcibajleknhklaaDoor
open Go.ChangeShapes Go.WideShapes Go.ChangeAt Go.WideMaps Go.WideElems Go.RowKit
def boolCell (w : World) (A : Option Addr) (k : Nat) : Bool := match A with
  | some a => (match w.cell? ⟨a.block, a.off + k, none⟩ with
    | some (.bool b) => b
    | _ => false)
  | none => false
theorem fit_bool {xs : List Value} (h : fitAllW [Leaf.bool] xs = true) : ∃ b, xs = [.bool b] := by
  have h1 := fitAllW_length h
  have h2 := fitAllW_fit h
  match xs, h1 with
  | [x], _ =>
    unfold fitAll at h2
    rw [Bool.and_eq_true] at h2
    obtain ⟨b, rfl⟩ := fits_bool h2.1
    exact ⟨b, rfl⟩
set_option maxRecDepth 100000 in
theorem stateKeeps_lifted (os : Os) (started : os.Started) (H : Type) (enc : TypeId × Value → H) :
    ReturnsInHanded {} Tryd.checked os 15 .any (fun w args => (Rows.stateKeepsSpec.pre enc Tryd.prog Tryd.f15 [] false w args ∧ laidMetH Tryd.prog Rows.stateKeepsRow.laid w) ∧ sizedMet enc Tryd.prog Tryd.f15 (OpenSpec.ofChange Rows.stateKeepsSpec) false w args)
      (Rows.stateKeepsSpec.post enc Tryd.prog Tryd.f15 false true false false) := by
  refine returnsInHanded_of_change_and (C := Tryd.checked) (X := fun w _ => laidMetH Tryd.prog Rows.stateKeepsRow.laid w) (fun _ _ _ hh h => h.of_heap hh) (by kernel_rfl) started (by kernel_rfl) Tryd.func15
    (ChangeSpec.witness_shaped (enc := enc) (C := Tryd.checked) (os := os) (X := fun w _ => laidMetH Tryd.prog Rows.stateKeepsRow.laid w) false (World.doorLaid Tryd.prog 400 os) #[.agg #[.int .u8 0, .int .u8 0], .slice none 0 0, .slice none 0 0] 8 rfl (World.shaped_of_RefB (by kernel_rfl) (by kernel_rfl)) (by kernel_rfl) (by kernel_rfl) (by kernel_rfl)
      (laidMetH_of_parts3 (fuel := 8) (laidMet_of_run' 8 (by kernel_rfl) (by kernel_rfl)) (by kernel_rfl) (by kernel_rfl))) ?_
  intro W base args ds gs before hval0 hW _ _ hL _
  have hval : ∀ (j : Nat) t v, Tryd.f15.params[j]? = some t → args[j]? = some v → Value.okWide Tryd.prog W .any base t v := hval0
  have hW' := hW
  obtain ⟨p, q, hA0, hV, rfl, hfz, hnd⟩ := hW
  have hA : DataW.TrodAll enc Tryd.prog W 0 (fun _ => true) true Tryd.f15.params.toList args.toList ds p := hA0
  have hA2 := hA
  rw [Tryd.params15] at hA hval
  obtain ⟨v0, v1, v2, d0, d1, d2, p0, p1, p2, rfl, rfl, hp, h0, h1, h2⟩ := trodAll_three hA
  obtain ⟨rfl, rfl⟩ := trodVars_none hV
  obtain ⟨ds0, rfl, hfit0⟩ := open_flat 3 [.int .u8, .int .u8] (by kernel_rfl) (by kernel_rfl) (hval 0 110 v0 rfl rfl) h0
  obtain ⟨a, cs1, rfl, wa, hfit0⟩ := fitAllW_int hfit0
  obtain ⟨b, cs2, rfl, wb, hfit0⟩ := fitAllW_int hfit0
  obtain rfl := fitAllW_nil hfit0
  obtain ⟨A, len, cap, rfl, hle, hm, hcs⟩ := open_flat_slice 5 ((List.range 75).map fun i => Leaf.int (kX i)) Tryd.underlying114 (by kernel_rfl) (by decide) (hval 1 114 v1 rfl rfl) h1
  have hic := int_cells hcs
  obtain ⟨M, len2, cap2, rfl, hle2, hm2, hcs2⟩ := open_flat_slice 5 [Leaf.bool] Tryd.underlying115 (by kernel_rfl) (by decide) (hval 2 115 v2 rfl rfl) h2
  rw [MakeChecks.laidMetH_plain _ _ _ (by kernel_rfl)] at hL
  have hF : FadeW W := fades_of hL
  have hT : CosW W := cosines_of (laidMet.tail (x := ("spinet/conceal.fades", Rows.laid_spinet_conceal_fades)) (r := [("spinet/cis.cosines", Rows.laid_spinet_cis_cosines)]) hL)
  simp only [List.append_nil] at hW'
  refine (keeps_any a b (wf_u8 wa) (wf_u8 wb) len cap A (fun i j => intCell W A (i * 75 + j)) len2 cap2 M (fun i => boolCell W M i) W hT hF (fun hp => ?_) (fun hp => ?_)).mono fun e W' ⟨he, hb⟩ => ?_
  · obtain ⟨bk, off, hA, hb, hc⟩ := hic hp
    have hn : ((List.range 75).map fun i => Leaf.int (kX i)).length = 75 := by simp
    rw [hn] at hc
    refine ⟨bk, off, hA, hb, fun i hi => ⟨fun j hj => (hc i hi j (kX j) (by rw [List.getElem?_map, List.getElem?_range hj]; rfl)).1, fun j hj => ?_⟩⟩
    have h6 := (hc i hi j (kX j) (by rw [List.getElem?_map, List.getElem?_range (by omega)]; rfl)).2
    rw [show kX j = .i32 from by unfold kX; rw [if_pos hj]] at h6
    exact wf_i32 h6
  · obtain ⟨bk, off, rfl, -, hb, hc⟩ := hcs2 hp
    refine ⟨bk, off, rfl, hb, fun i hi => ?_⟩
    obtain ⟨cs, h3, h4⟩ := hc i hi
    obtain ⟨x, rfl⟩ := fit_bool h3
    have h5 := h4 0 (by decide)
    rw [show off + i * [Leaf.bool].length + 0 = off + i from by simp] at h5
    have h6 : W.cell? ⟨bk, off + i, none⟩ = some (.bool x) := h5
    have h7 : boolCell W (some ⟨bk, off, none⟩) i = x := by
      show (match W.cell? ⟨bk, off + i, none⟩ with
        | some (.bool b) => b
        | _ => false) = x
      rw [h6]
    rw [h7]
    exact h6
  subst he
  have e1 : Rows.stateKeepsSpec.fn H ([d0, d1, d2] ++ []) = { results := [.lit (.bool true)], args := [d0, d1, d2] } := by simp [Rows.stateKeepsSpec]
  refine ⟨_, rfl, _, _, _, [], p, [], hW', ?_, ?_, ?_, hb.frame _, fun h => by cases h⟩
  · rw [e1]; exact trodAll_mk1 (shut_bool Tryd.underlying4 _)
  · rw [e1]; exact trodAll_below (by kernel_rfl) hb _ _ _ _ (by kernel_rfl) hA2 (fun x hx => by simpa using hW'.lt x (by simpa using hx))
  · rw [e1]; rfl
theorem stateKeeps_holds : Rows.StateKeepsSaid :=
  OpenClaim.holds_of_wide 15 Tryd.f15 rfl rfl rfl rfl rfl rfl rfl ⟨rfl, rfl, rfl, rfl, rfl⟩ rfl rfl rfl rfl rfl (by kernel_rfl) Tryd.func15 (by kernel_rfl)
    (of_decide_eq_true (by kernel_rfl)) (by unfold Func.isWrapper; rw [if_neg (of_decide_eq_false (by kernel_rfl))]; exact ⟨rfl, rfl⟩)
    (fun os started H enc _ => stateKeeps_lifted os started H enc)
theorem stateKeeps_card : Rows.StateKeepsCardSaid :=
  Claim7.holds_tied_plain_at .later [] [.data, .data] true (true, "ae348317897b4f8711de699b2180ffb779772e4703cfa942f657876935132cc0") false
    stateKeeps_holds (fun _ h => by cases h) (by kernel_rfl) (fun _ h => by cases h) stateKeeps_row_tie rfl ⟨rfl, rfl⟩ (by kernel_rfl) rfl
    (fun f fn hf hfn => by
      obtain rfl : f = 15 := Option.some.inj ((show Tryd.prog.funcNamed "spinet/spinetlaw26.StateKeeps" = some 15 by kernel_rfl).symm.trans hf) |>.symm
      obtain rfl : fn = Tryd.f15 := (Option.some.inj (Tryd.func15.symm.trans hfn)).symm
      exact ⟨by kernel_rfl, fun j t ht => by
        rw [Tryd.params15] at ht
        have hm : t ∈ [110, 114, 115] := by simpa using Array.mem_of_getElem? ht
        have hall : ([110, 114, 115].all fun u => !Tryd.prog.wantsStandIn u) = true := by kernel_rfl
        exact (show Tryd.prog.wantsStandIn t = false by simpa using List.all_eq_true.1 hall t (by simpa using hm))⟩)
    (by kernel_rfl)
end Go.Proofs.YtcibajleknhklaaDoor
end

