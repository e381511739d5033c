/-
  FrameTools: both tools tell what layers 12 and 14 say. For every input.
  (One text out of these parts: SymR, JobR, HeadR, Frm, ReadR, ReadS, ShareN, ToolQ, ToolP, RefRk, Tool15, ToolI, RefRl, Awake16, ToolW, Law, LaidW, FlatS, FrameToolsRow.)
-/
import Derived.Test.YtbcdnbbpkikppaaDoorFTld
import Derived.Handy
import Derived.Test.YtbcdnbbpkikppaaDoorProg
import Derived.Laws.AppendOwnNone
import Derived.Great.BuildSlice
import Derived.ProofKit
import Derived.LaidMore
import Derived.OpenShut
import Derived.Stop.Joined
import Derived.Lib.LaidTab
import Derived.Test.YtbcdnbbpkikppaaDoorRows
import Derived.DataReads
import Derived.Test.YtbcdnbbpkikppaaDoorCards
import Derived.Test.YtbcdnbbpkikppaaDoorTie
import Derived.SevenTiedAt
section
namespace Go.Proofs.YtbcdnbbpkikppaaDoor
open Go.RowKit Go.BigFrame
set_option linter.unusedSimpArgs false
set_option linter.unusedVariables false
set_option maxHeartbeats 1000000 in
/-- No raw bits. -/
theorem rdRaw0 (c : RC) (w : World) : Calls Tryd.prog 138 #[.pointer (some ⟨c.rb, 0, none⟩), .int .i64 0] w fun e w' => e = .returned (.int .u32 0) ∧ Below w.heap.size w w' := by
  go_enter Tryd.func138, Tryd.ntmps138
  go_wp2_with fail
  go_loopw [5, 6, 7, 11] (fun v5 v6 v7 cnt wr => v5 = .int .u32 0 ∧ cnt = .int .i64 0 ∧ Below w.heap.size w wr) (fun _ _ _ _ _ => 0)
  case atStart => exact ⟨rfl, rfl, by (repeat' (first | with_reducible (first | exact Below.refl _ _ | assumption | refine Below.alloc ?_ ?_ _ | refine below_grew ?_ ?_ _ | refine Below.setCell ?_ ?_ _ | refine Below.drew ?_ | refine below_drewN ?_ _) | omega | (simp; done) | (simp; omega)))⟩
  case round =>
    obtain ⟨rfl, rfl, hb⟩ := hrel
    go_wp2_with fail
    go_ret
    exact ⟨rfl, hb⟩
theorem getF_bd (s : RS) (hok : RsOk s) (t : Int) (ht : 1 ≤ t ∧ t ≤ 4096) : 0 ≤ getF s t ∧ getF s t < t := by
  obtain ⟨p1, p2, -⟩ := part_bd s.rng t hok.r0 hok.r1 ht.1 ht.2
  have := Int.ediv_nonneg hok.v0 (show 0 ≤ s.rng / t by omega)
  unfold getF
  rw [if_pos ht]
  omega
/-- A symbol. -/
def oneS (c : RC) (s : RS) (t : Int) : RS := takeF c s (getF s t) (getF s t + 1) t
set_option maxHeartbeats 1000000 in
set_option maxRecDepth 100000 in
theorem rdOne (c : RC) (s : RS) (hok : RsOk s) (t : Int) (ht : 1 ≤ t ∧ t ≤ 4096) (w : World) (h : RdAt c s w) (hk : s.taken ≤ 900000) (hn : c.n ≤ 1000000) :
    Calls Tryd.prog 99 #[.pointer (some ⟨c.rb, 0, none⟩), .int .i64 t] w fun e w' => e = .returned (.int .i64 (getF s t)) ∧ RdAt c (oneS c s t) w' ∧ Chg [c.rb] w w' := by
  have hg := Lib.hid (fun w h => rdGet c s hok t w h)
  have hbd := getF_bd s hok t ht
  have htk := Lib.hid (fun w h => rdTake c s hok (getF s t) (getF s t + 1) t w h hk hn)
  have HO := Lib.hid (show oneS c s t = takeF c s (getF s t) (getF s t + 1) t from rfl)
  rw [HO.out]
  have H := Lib.hid h
  obtain ⟨t1, t2⟩ := ht
  obtain ⟨g, hgg⟩ : ∃ g, getF s t = g := ⟨_, rfl⟩
  rw [hgg] at hg hbd htk ⊢
  obtain ⟨b0, b1⟩ := hbd
  clear h hgg HO
  go_enter Tryd.func99, Tryd.ntmps99
  go_wp2_with fail
  refine (hg.out _ H.out).mono ?_
  rintro e w1 ⟨rfl, hb1⟩
  have H1 := Lib.hid (H.out.keep0 hb1)
  have C1 := Lib.hid (Chg.of_below (l := [c.rb]) hb1)
  clear hb1 H hg
  go_wp2_with fail
  refine (htk.out _ H1.out).mono ?_
  rintro e w2 ⟨rfl, hr, hc⟩
  have H2 := Lib.hid hr
  have C2 := Lib.hid (C1.out.trans hc)
  clear hr hc H1 C1 htk
  go_wp2_with fail
  go_ret
  exact ⟨rfl, H2.out, C2.out⟩
set_option maxHeartbeats 1000000 in
theorem partsSmall (t : Int) (ht : t ≤ 256) (w : World) : Calls Tryd.prog 98 #[.int .i64 t] w fun e w' => e = .returned (.tuple #[.int .i64 t, .int .i64 0]) ∧ Below w.heap.size w w' := by
  go_enter Tryd.func98, Tryd.ntmps98
  go_wp2_with fail
  refine bodyPost_ret (v := _) (by simp [results, Tryd.results98, go_sem]; rfl) rfl ⟨?_, ?_⟩
  · rfl
  · (repeat' (first | with_reducible (first | exact Below.refl _ _ | assumption | refine Below.alloc ?_ ?_ _ | refine below_grew ?_ ?_ _ | refine Below.setCell ?_ ?_ _ | refine Below.drew ?_ | refine below_drewN ?_ _) | omega | (simp; done) | (simp; omega)))
theorem or_zero (a : Int) (h0 : 0 ≤ a) (h1 : a < 9223372036854775808) : bits .or .i64 a 0 = a := by
  have := or_i64 0 a 0 h0 (by omega) (by omega) (by omega)
  simpa using this
set_option maxHeartbeats 2000000 in
set_option maxRecDepth 100000 in
/-- A number of few. -/
theorem rdUint (c : RC) (s : RS) (hok : RsOk s) (t : Int) (ht : 1 ≤ t ∧ t ≤ 256) (w : World) (h : RdAt c s w) (hk : s.taken ≤ 900000) (hn : c.n ≤ 1000000) :
    Calls Tryd.prog 78 #[.pointer (some ⟨c.rb, 0, none⟩), .int .i64 t] w fun e w' => e = .returned (.tuple #[.int .i64 (getF s t), .bool true]) ∧ RdAt c (oneS c s t) w' ∧ Chg [c.rb] w w' := by
  have hps := Lib.hid (fun w => partsSmall t ht.2 w)
  have hbd := getF_bd s hok t (by omega)
  have hon := Lib.hid (fun w h => rdOne c s hok t (by omega) w h hk hn)
  have hr0 := Lib.hid (fun w => rdRaw0 c w)
  have H := Lib.hid h
  obtain ⟨t1, t2⟩ := ht
  obtain ⟨g, hgg⟩ : ∃ g, getF s t = g := ⟨_, rfl⟩
  rw [hgg] at hon hbd ⊢
  obtain ⟨b0, b1⟩ := hbd
  obtain ⟨s1, hs1⟩ : ∃ s1, oneS c s t = s1 := ⟨_, rfl⟩
  rw [hs1] at hon ⊢
  clear h hgg hs1
  go_enter Tryd.func78, Tryd.ntmps78
  go_wp2_with fail
  refine (hps.out _).mono ?_
  rintro e w1 ⟨rfl, hb1⟩
  go_upto_region 4 with fail
  refine cut_world (fun W => RdAt c s W ∧ Chg [c.rb] w W) ⟨H.out.keep0 hb1, Chg.of_below hb1⟩ ?_
  clear hb1 H hps
  rintro V ⟨hR, hC⟩
  have HR4 := Lib.hid hR
  have HC4 := Lib.hid hC
  have hl := hR.lt
  clear hR hC
  have HF := Lib.hid (fun (b : Bool) W (hp : RdAt c (if b = true then s1 else s) W) => (show True from trivial))
  have HPD := Lib.hid (fun (b : Bool) W W' (hb : Below W.heap.size W W') (hp : RdAt c (if b = true then s1 else s) W) => hp.keep0 hb)
  refine region_one [c.rb] 2 11 (fun b W => RdAt c (if b = true then s1 else s) W) (by kernel_rfl) (by kernel_rfl) HR4.out (fun W h => h.keep0 (Below.refl _ _).drew) HPD.out ?_
  simp only [List.take_succ_cons, List.take_zero, List.drop_succ_cons, List.drop_zero]
  refine RI.wpInv_det (by kernel_rfl) (by kernel_rfl) ?_
  apply Exists.intro
  refine ⟨?_, ?_, ?_⟩
  · rintro D U W hDi ⟨hC, hP⟩ hH
    have hF := HF.out _ W hP
    simp only [HypsU, predsOf, Region.binds, List.filterMap_cons, List.filterMap_nil, if_true, List.nil_append, List.cons_append, List.getD_cons_zero, List.getD_cons_succ] at hH
    simp only [fillPuts, Act.put, List.setIfInBounds_toArray, List.set_cons_zero, List.set_cons_succ, Nat.reduceAdd]
    go_wp2_with fail
    refine ⟨rfl, rfl, (show Below W.heap.size W _ from by (repeat' (first | with_reducible (first | exact Below.refl _ _ | assumption | refine Below.alloc ?_ ?_ _ | refine below_grew ?_ ?_ _ | refine Below.setCell ?_ ?_ _ | refine Below.drew ?_ | refine below_drewN ?_ _) | omega | (simp; done) | (simp; omega)))), ?_⟩
    conv => lhs; whnf
    try rfl
  · exact fun _ => rfl
  simp only [List.nil_append, List.cons_append, Nat.reduceAdd]
  refine RI.wpInv_det (by kernel_rfl) (by kernel_rfl) ?_
  apply Exists.intro
  refine ⟨?_, ?_, ?_⟩
  · rintro D U W hDi ⟨hC, hP⟩ hH
    have hF := HF.out _ W hP
    simp only [HypsU, predsOf, Region.binds, List.filterMap_cons, List.filterMap_nil, if_true, List.nil_append, List.cons_append, List.getD_cons_zero, List.getD_cons_succ] at hH
    simp only [fillPuts, Act.put, List.setIfInBounds_toArray, List.set_cons_zero, List.set_cons_succ, Nat.reduceAdd]
    go_wp2_with fail
    refine ⟨rfl, rfl, (show Below W.heap.size W _ from by (repeat' (first | with_reducible (first | exact Below.refl _ _ | assumption | refine Below.alloc ?_ ?_ _ | refine below_grew ?_ ?_ _ | refine Below.setCell ?_ ?_ _ | refine Below.drew ?_ | refine below_drewN ?_ _) | omega | (simp; done) | (simp; omega)))), ?_⟩
    conv => lhs; whnf
    try rfl
  · exact fun _ => rfl
  simp only [List.nil_append, List.cons_append, Nat.reduceAdd]
  refine RI.wpInv_det (by kernel_rfl) (by kernel_rfl) ?_
  apply Exists.intro
  refine ⟨?_, ?_, ?_⟩
  · rintro D U W hDi ⟨hC, hP⟩ hH
    rw [hDi] at hP
    simp only [HypsU, predsOf, Region.binds, List.filterMap_cons, List.filterMap_nil, if_true, List.nil_append, List.cons_append, List.getD_cons_zero, List.getD_cons_succ] at hH
    simp only [fillPuts, Act.put, List.setIfInBounds_toArray, List.set_cons_zero, List.set_cons_succ, Nat.reduceAdd]
    (try simp only [hH]); go_wp2_with fail; refine (hon.out W hP).mono ?_; rintro e2 w' ⟨rfl, hp1, hg1⟩; go_wp2_with fail
    refine ⟨rfl, rfl, (show Chg _ _ _ ∧ _ from ⟨hg1, hp1⟩), ?_⟩
    conv => lhs; whnf
    try rfl
  · exact fun _ => rfl
  simp only [List.nil_append, List.cons_append, Nat.reduceAdd]
  refine RI.wpInv_det (by kernel_rfl) (by kernel_rfl) ?_
  apply Exists.intro
  refine ⟨?_, ?_, ?_⟩
  · rintro D U W hDi ⟨hC, hP⟩ hH
    have hF := HF.out _ W hP
    simp only [HypsU, predsOf, Region.binds, List.filterMap_cons, List.filterMap_nil, if_true, List.nil_append, List.cons_append, List.getD_cons_zero, List.getD_cons_succ] at hH
    simp only [fillPuts, Act.put, List.setIfInBounds_toArray, List.set_cons_zero, List.set_cons_succ, Nat.reduceAdd]
    go_wp2_with fail
    refine ⟨rfl, rfl, (show Below W.heap.size W _ from by (repeat' (first | with_reducible (first | exact Below.refl _ _ | assumption | refine Below.alloc ?_ ?_ _ | refine below_grew ?_ ?_ _ | refine Below.setCell ?_ ?_ _ | refine Below.drew ?_ | refine below_drewN ?_ _) | omega | (simp; done) | (simp; omega)))), ?_⟩
    conv => lhs; whnf
    try rfl
  · exact fun _ => rfl
  simp only [List.nil_append, List.cons_append, Nat.reduceAdd]
  refine RI.wpInv_det (by kernel_rfl) (by kernel_rfl) ?_
  apply Exists.intro
  refine ⟨?_, ?_, ?_⟩
  · rintro D U W hDi ⟨hC, hP⟩ hH
    have hF := HF.out _ W hP
    simp only [HypsU, predsOf, Region.binds, List.filterMap_cons, List.filterMap_nil, if_true, List.nil_append, List.cons_append, List.getD_cons_zero, List.getD_cons_succ] at hH
    simp only [fillPuts, Act.put, List.setIfInBounds_toArray, List.set_cons_zero, List.set_cons_succ, Nat.reduceAdd]
    (try simp only [hH]); go_wp2_with fail
    refine ⟨rfl, rfl, (show Below W.heap.size W _ from by (repeat' (first | with_reducible (first | exact Below.refl _ _ | assumption | refine Below.alloc ?_ ?_ _ | refine below_grew ?_ ?_ _ | refine Below.setCell ?_ ?_ _ | refine Below.drew ?_ | refine below_drewN ?_ _) | omega | (simp; done) | (simp; omega)))), ?_⟩
    conv => lhs; whnf
    try rfl
  · exact fun _ => rfl
  simp only [List.nil_append, List.cons_append, Nat.reduceAdd]
  refine RI.wpInv_det (by kernel_rfl) (by kernel_rfl) ?_
  apply Exists.intro
  refine ⟨?_, ?_, ?_⟩
  · rintro D U W hDi ⟨hC, hP⟩ hH
    have hF := HF.out _ W hP
    simp only [HypsU, predsOf, Region.binds, List.filterMap_cons, List.filterMap_nil, if_true, List.nil_append, List.cons_append, List.getD_cons_zero, List.getD_cons_succ] at hH
    simp only [fillPuts, Act.put, List.setIfInBounds_toArray, List.set_cons_zero, List.set_cons_succ, Nat.reduceAdd]
    go_wp2_with fail
    refine ⟨rfl, rfl, (show Below W.heap.size W _ from by (repeat' (first | with_reducible (first | exact Below.refl _ _ | assumption | refine Below.alloc ?_ ?_ _ | refine below_grew ?_ ?_ _ | refine Below.setCell ?_ ?_ _ | refine Below.drew ?_ | refine below_drewN ?_ _) | omega | (simp; done) | (simp; omega)))), ?_⟩
    conv => lhs; whnf
    try rfl
  · exact fun _ => rfl
  simp only [List.nil_append, List.cons_append, Nat.reduceAdd]
  refine RI.wpInv_det (by kernel_rfl) (by kernel_rfl) ?_
  apply Exists.intro
  refine ⟨?_, ?_, ?_⟩
  · rintro D U W hDi ⟨hC, hP⟩ hH
    have hF := HF.out _ W hP
    simp only [HypsU, predsOf, Region.binds, List.filterMap_cons, List.filterMap_nil, if_true, List.nil_append, List.cons_append, List.getD_cons_zero, List.getD_cons_succ] at hH
    simp only [fillPuts, Act.put, List.setIfInBounds_toArray, List.set_cons_zero, List.set_cons_succ, Nat.reduceAdd]
    (try simp only [hH]); go_wp2_with fail
    refine ⟨rfl, rfl, (show Below W.heap.size W _ from by (repeat' (first | with_reducible (first | exact Below.refl _ _ | assumption | refine Below.alloc ?_ ?_ _ | refine below_grew ?_ ?_ _ | refine Below.setCell ?_ ?_ _ | refine Below.drew ?_ | refine below_drewN ?_ _) | omega | (simp; done) | (simp; omega)))), ?_⟩
    conv => lhs; whnf
    try rfl
  · exact fun _ => rfl
  simp only [List.nil_append, List.cons_append, Nat.reduceAdd]
  refine RI.wpInv_det (by kernel_rfl) (by kernel_rfl) ?_
  apply Exists.intro
  refine ⟨?_, ?_, ?_⟩
  · rintro D U W hDi ⟨hC, hP⟩ hH
    have hF := HF.out _ W hP
    simp only [HypsU, predsOf, Region.binds, List.filterMap_cons, List.filterMap_nil, if_true, List.nil_append, List.cons_append, List.getD_cons_zero, List.getD_cons_succ] at hH
    simp only [fillPuts, Act.put, List.setIfInBounds_toArray, List.set_cons_zero, List.set_cons_succ, Nat.reduceAdd]
    go_wp2_with fail
    refine ⟨rfl, rfl, (show Below W.heap.size W _ from by (repeat' (first | with_reducible (first | exact Below.refl _ _ | assumption | refine Below.alloc ?_ ?_ _ | refine below_grew ?_ ?_ _ | refine Below.setCell ?_ ?_ _ | refine Below.drew ?_ | refine below_drewN ?_ _) | omega | (simp; done) | (simp; omega)))), ?_⟩
    conv => lhs; whnf
    try rfl
  · exact fun _ => rfl
  simp only [List.nil_append, List.cons_append, Nat.reduceAdd]
  refine RI.wpInv_det (by kernel_rfl) (by kernel_rfl) ?_
  apply Exists.intro
  refine ⟨?_, ?_, ?_⟩
  · rintro D U W hDi ⟨hC, hP⟩ hH
    have hF := HF.out _ W hP
    simp only [HypsU, predsOf, Region.binds, List.filterMap_cons, List.filterMap_nil, if_true, List.nil_append, List.cons_append, List.getD_cons_zero, List.getD_cons_succ] at hH
    simp only [fillPuts, Act.put, List.setIfInBounds_toArray, List.set_cons_zero, List.set_cons_succ, Nat.reduceAdd]
    (try simp only [hH]); go_wp2_with fail; refine (hr0.out _).mono ?_; rintro e w' ⟨rfl, hb1⟩; obtain ⟨x1, rfl⟩ := below_as_grew hb1; clear hb1; go_wp2_with fail
    refine ⟨rfl, rfl, (show Below W.heap.size W _ from by (repeat' (first | with_reducible (first | exact Below.refl _ _ | assumption | refine Below.alloc ?_ ?_ _ | refine below_grew ?_ ?_ _ | refine Below.setCell ?_ ?_ _ | refine Below.drew ?_ | refine below_drewN ?_ _) | omega | (simp; done) | (simp; omega)))), ?_⟩
    conv => lhs; whnf
    try rfl
  · exact fun _ => rfl
  simp only [List.nil_append, List.cons_append, Nat.reduceAdd]
  refine RI.wpInv_det (by kernel_rfl) (by kernel_rfl) ?_
  apply Exists.intro
  refine ⟨?_, ?_, ?_⟩
  · rintro D U W hDi ⟨hC, hP⟩ hH
    have hF := HF.out _ W hP
    simp only [HypsU, predsOf, Region.binds, List.filterMap_cons, List.filterMap_nil, if_true, List.nil_append, List.cons_append, List.getD_cons_zero, List.getD_cons_succ] at hH
    simp only [fillPuts, Act.put, List.setIfInBounds_toArray, List.set_cons_zero, List.set_cons_succ, Nat.reduceAdd]
    (try simp only [hH]); go_wp2_with fail
    refine ⟨rfl, rfl, (show Below W.heap.size W _ from by (repeat' (first | with_reducible (first | exact Below.refl _ _ | assumption | refine Below.alloc ?_ ?_ _ | refine below_grew ?_ ?_ _ | refine Below.setCell ?_ ?_ _ | refine Below.drew ?_ | refine below_drewN ?_ _) | omega | (simp; done) | (simp; omega)))), ?_⟩
    conv => lhs; whnf
    try rfl
  · exact fun _ => rfl
  simp only [List.nil_append, List.cons_append, Nat.reduceAdd]
  refine RI.wpInv_det (by kernel_rfl) (by kernel_rfl) ?_
  apply Exists.intro
  refine ⟨?_, ?_, ?_⟩
  · rintro D U W hDi ⟨hC, hP⟩ hH
    have hF := HF.out _ W hP
    simp only [HypsU, predsOf, Region.binds, List.filterMap_cons, List.filterMap_nil, if_true, List.nil_append, List.cons_append, List.getD_cons_zero, List.getD_cons_succ] at hH
    simp only [fillPuts, Act.put, List.setIfInBounds_toArray, List.set_cons_zero, List.set_cons_succ, Nat.reduceAdd]
    (try simp only [hH]); go_wp2_with fail
    refine ⟨rfl, rfl, (show Below W.heap.size W _ from by (repeat' (first | with_reducible (first | exact Below.refl _ _ | assumption | refine Below.alloc ?_ ?_ _ | refine below_grew ?_ ?_ _ | refine Below.setCell ?_ ?_ _ | refine Below.drew ?_ | refine below_drewN ?_ _) | omega | (simp; done) | (simp; omega)))), ?_⟩
    conv => lhs; whnf
    try rfl
  · exact fun _ => rfl
  simp only [List.nil_append, List.cons_append, Nat.reduceAdd]
  simp only [List.nil_append, List.cons_append, Nat.reduceAdd, fillPuts, Act.put, List.setIfInBounds_toArray, List.set_cons_zero, List.set_cons_succ]
  rintro D U W hD ⟨hC, hP⟩ ⟨h0, h1, h2, h3, h4, h5, h6, h7, h8, h9, h10, -⟩ -
  rw [hD 2 (by omega)] at hP
  simp only [h0, h1, h2, h3, h4, h5, h6, h7, h8, h9, h10]
  rw [or_zero g b0 (by omega)]
  have HPW := Lib.hid (show RdAt c s1 W from hP)
  have HCW := Lib.hid (HC4.out.trans hC)
  have hmin : min g (t - 1) = g := by omega
  clear h0 h1 h2 h3 h4 h5 h6 h7 h8 h9 h10 hC hP HR4 HC4 HF HPD hl hon hr0
  go_wp2_with fail
  refine bodyPost_ret (v := _) (by simp [results, Tryd.results78, go_sem]; rfl) rfl ⟨?_, ?_⟩
  · rfl
  · exact ⟨HPW.out, HCW.out⟩
end Go.Proofs.YtbcdnbbpkikppaaDoor
end

section
namespace Go.Proofs.YtbcdnbbpkikppaaDoor
open Go.RowKit Go.BigFrame
set_option linter.unusedSimpArgs false
set_option linter.unusedVariables false
abbrev TJR := 106
/-- What a job holds: the frame so far, the mode, the tools, the energies ahead, whether it is bad. -/
structure JSt where
  f : Nat → Int
  sz : Int
  ch : Int
  tv : Value
  prev : Nat → Int
  bad : Bool
def jcell (rb : Nat) (j : JSt) (i : Nat) : Value :=
  if i < 94 then fcell i (j.f i) else if i = 94 then .int .i64 j.sz else if i = 95 then .int .i64 j.ch else if i = 96 then .pointer (some ⟨rb, 0, none⟩) else if i = 97 then j.tv else if i < 108 then .int .i64 (j.prev (i - 98)) else .bool j.bad
/-- A job in its block, and its reader. -/
structure JR (jb : Nat) (c : RC) (j : JSt) (s : RS) (w : World) : Prop where
  blk : Bv jb TJR 109 (jcell c.rb j) w
  rd : RdAt c s w
  ne : jb ≠ c.rb
  ng : 0 < c.n → jb ≠ c.g
theorem JR.lt {jb c j s} {w : World} (h : JR jb c j s w) : jb < w.heap.size := (block_facts h.blk).2.2
theorem JR.keep {jb c j s} {w w' : World} (h : JR jb c j s w) (hb : Below w.heap.size w w') : JR jb c j s w' :=
  ⟨(hb.block jb h.lt).trans h.blk, h.rd.keep0 hb, h.ne, h.ng⟩
/-- The reader went on. -/
theorem JR.read {jb c j s s'} {w w' : World} (h : JR jb c j s w) (hr : RdAt c s' w') (hc : Chg [c.rb] w w') : JR jb c j s' w' :=
  ⟨hc.keepB h.blk (by simpa using h.ne), hr, h.ne, h.ng⟩
/-- The job's block was written. -/
theorem JR.turn {jb c j j' s} {w w' : World} (h : JR jb c j s w) (hb : Bv jb TJR 109 (jcell c.rb j') w') (hc : Chg [jb] w w') : JR jb c j' s w' :=
  ⟨hb, ⟨hc.keepB h.rd.blk (by simpa using fun e => h.ne e.symm), fun hn => by obtain ⟨a1, a2, a3⟩ := h.rd.adr hn; exact ⟨a1, Nat.lt_of_lt_of_le a2 hc.size, a3⟩, fun i hi => by
    obtain ⟨a1, a2, a3⟩ := h.rd.adr (by omega)
    have hg := h.ng (by omega)
    exact ⟨(hc.cell c.g i a2 (by simpa using fun e => hg e.symm)).trans (h.rd.byt i hi).1, (h.rd.byt i hi).2⟩⟩, h.ne, h.ng⟩
theorem JR.fz {jb c j s} {w : World} (h : JR jb c j s w) (i : Nat) : w.frozen? ⟨jb, i, none⟩ = false := (block_facts h.blk).2.1 i
theorem JR.cf {jb c j s} {w : World} (h : JR jb c j s w) (i : Nat) (hi : i < 94) : w.cell? ⟨jb, i, none⟩ = some (fcell i (j.f i)) := by
  rw [h.blk.cell i (by omega)]; unfold jcell; rw [if_pos hi]
theorem JR.cs {jb c j s} {w : World} (h : JR jb c j s w) : w.cell? ⟨jb, 96, none⟩ = some (.pointer (some ⟨c.rb, 0, none⟩)) := h.blk.cell 96 (by omega)
theorem JR.cb {jb c j s} {w : World} (h : JR jb c j s w) : w.cell? ⟨jb, 108, none⟩ = some (.bool j.bad) := h.blk.cell 108 (by omega)
theorem JR.setBad {jb c j s} {w : World} (h : JR jb c j s w) (b : Bool) : JR jb c { j with bad := b } s (w.setCell ⟨jb, 108, none⟩ (.bool b)) :=
  h.turn ((h.blk.set 108 (by omega) (.bool b)).ext fun i hi => by
    unfold updV jcell
    by_cases e : i = 108
    · subst e; rfl
    · rw [if_neg e]
      simp only
      split
      · rfl
      · split
        · rfl
        · split
          · rfl
          · split
            · rfl
            · split
              · rfl
              · split
                · rfl
                · omega) ((Chg.refl _ _).setCell _ (by simp))
theorem JR.setF {jb c j s} {w : World} (h : JR jb c j s w) (k : Nat) (hk : k < 94) (x : Int) : JR jb c { j with f := updI j.f k x } s (w.setCell ⟨jb, k, none⟩ (fcell k x)) :=
  h.turn ((h.blk.set k (by omega) (fcell k x)).ext fun i hi => by
    unfold updV jcell
    by_cases e : i = k
    · subst e; rw [if_pos rfl, if_pos hk]; simp [updI]
    · rw [if_neg e]
      by_cases h94 : i < 94
      · rw [if_pos h94, if_pos h94]; simp [updI, e]
      · rw [if_neg h94, if_neg h94]) ((Chg.refl _ _).setCell _ (by simp))
set_option maxHeartbeats 2000000 in
set_option maxRecDepth 100000 in
theorem jrUint (jb : Nat) (c : RC) (j : JSt) (s : RS) (hok : RsOk s) (t : Int) (ht : 1 ≤ t ∧ t ≤ 256) (w : World) (h : JR jb c j s w) (hk : s.taken ≤ 900000) (hn : c.n ≤ 1000000) :
    Calls Tryd.prog 47 #[.pointer (some ⟨jb, 0, none⟩), .int .i64 t] w fun e w' => e = .returned (.int .i64 (getF s t)) ∧ JR jb c j (oneS c s t) w' ∧ Chg [jb, c.rb] w w' := by
  have hu := Lib.hid (fun w h => rdUint c s hok t ht w h hk hn)
  have H := Lib.hid h
  have cs := h.cs
  have hl := h.lt
  clear h ht hok
  go_enter Tryd.func47, Tryd.ntmps47
  go_wp2_with fail
  refine (hu.out _ H.out.rd).mono ?_
  rintro e w1 ⟨rfl, hr, hc⟩
  have hj := H.out.read hr hc
  have HJ := Lib.hid hj
  have HC := Lib.hid (hc.mono (l' := [jb, c.rb]) (by simp))
  have cb := hj.cb
  have fb := hj.fz 108
  have hl1 := hj.lt
  obtain ⟨bd, hbd⟩ : ∃ b, j.bad = b := ⟨_, rfl⟩
  rw [hbd] at cb
  have HBD := Lib.hid hbd
  clear hr hc hj H cs hl hu hbd
  cases bd
  · go_wp2_with fail
    have h2 := HJ.out.setBad false
    have e2 : ({ j with bad := false } : JSt) = j := by rw [← HBD.out]
    rw [e2] at h2
    refine bodyPost_ret (v := _) (by simp [results, Tryd.results47, go_sem]; rfl) rfl ⟨?_, ?_⟩
    · rfl
    · exact ⟨h2, HC.out.setCell _ (by simp)⟩
  · go_wp2_with fail
    have h2 := HJ.out.setBad true
    have e2 : ({ j with bad := true } : JSt) = j := by rw [← HBD.out]
    rw [e2] at h2
    refine bodyPost_ret (v := _) (by simp [results, Tryd.results47, go_sem]; rfl) rfl ⟨?_, ?_⟩
    · rfl
    · exact ⟨h2, HC.out.setCell _ (by simp)⟩
end Go.Proofs.YtbcdnbbpkikppaaDoor
end

section
namespace Go.Proofs.YtbcdnbbpkikppaaDoor
open Go.RowKit Go.BigFrame
set_option linter.unusedSimpArgs false
set_option linter.unusedVariables false
theorem and_one32 : ∀ h : Fin 32, bits .and .i64 (h.val : Int) 1 = (h.val : Int) % 2 := by decide +kernel
theorem and_oneI (h : Int) (h0 : 0 ≤ h) (h1 : h < 32) : bits .and .i64 h 1 = h % 2 := by
  obtain ⟨n, rfl⟩ := Int.eq_ofNat_of_zero_le h0
  exact and_one32 ⟨n, by omega⟩
def headF (f : Nat → Int) (h : Int) : Nat → Int := updI (updI (updI f 0 (h % 2)) 1 (h / 2 % 2)) 2 (h / 4)
def headJ (j : JSt) (h : Int) : JSt := { j with f := headF j.f h, bad := j.bad || decide (16 ≤ h) }
theorem flag_cell (k : Nat) (hk : k < 2) (p : Int) (hp : p = 0 ∨ p = 1) : fcell k p = .bool (decide (p = 1)) := by
  unfold fcell; rw [if_pos hk]
  rcases hp with rfl | rfl <;> rfl
set_option maxHeartbeats 4000000 in
set_option maxRecDepth 100000 in
theorem jrHead (jb : Nat) (c : RC) (j : JSt) (s : RS) (hok : RsOk s) (w : World) (h : JR jb c j s w) (hk : s.taken ≤ 900000) (hn : c.n ≤ 1000000) :
    Calls Tryd.prog 46 #[.pointer (some ⟨jb, 0, none⟩)] w fun e w' => e = .returned (.tuple #[]) ∧ JR jb c (headJ j (getF s 32)) (oneS c s 32) w' ∧ Chg [jb, c.rb] w w' := by
  have hu := Lib.hid (fun w h => jrUint jb c j s hok 32 (by omega) w h hk hn)
  have H := Lib.hid h
  have hbd := getF_bd s hok 32 (by omega)
  obtain ⟨g, hg⟩ : ∃ g, getF s 32 = g := ⟨_, rfl⟩
  obtain ⟨s1, hs1⟩ : ∃ s1, oneS c s 32 = s1 := ⟨_, rfl⟩
  rw [hg, hs1] at hu
  rw [hg] at hbd ⊢
  rw [hs1]
  obtain ⟨b0, b1⟩ := hbd
  clear h hok hg hs1
  have ha := and_oneI g b0 b1
  have ha2 := and_oneI (g / 2) (by omega) (by omega)
  have p0 : g % 2 = 0 ∨ g % 2 = 1 := by omega
  have p1 : g / 2 % 2 = 0 ∨ g / 2 % 2 = 1 := by omega
  have E0 := Lib.hid (flag_cell 0 (by omega) _ p0)
  have E1 := Lib.hid (flag_cell 1 (by omega) _ p1)
  have E2 := Lib.hid (fcell_int 2 (by omega) (g / 4))
  clear p0 p1
  go_enter Tryd.func46, Tryd.ntmps46
  go_wp2_with fail
  refine (hu.out _ H.out).mono ?_
  rintro e w1 ⟨rfl, hj, hc⟩
  have HJ := Lib.hid hj
  have HC := Lib.hid hc
  have cb := hj.cb
  have fb := hj.fz 108
  have hl1 := hj.lt
  have hbad : (j.bad || decide (16 ≤ g)) = (headJ j g).bad := rfl
  have HJH := Lib.hid (show headJ j g = { j with f := headF j.f g, bad := j.bad || decide (16 ≤ g) } from rfl)
  obtain ⟨bd, hbd⟩ : ∃ b, j.bad = b := ⟨_, rfl⟩
  rw [hbd] at cb HJH
  clear hj hc H hu hbd hbad
  by_cases h16 : 16 ≤ g
  · have d16 : decide (16 ≤ g) = true := decide_eq_true h16
    cases bd
    · skip
      go_upto_region 2 with fail
      refine cut_world (fun W => JR jb c { j with bad := true } s1 W ∧ Chg [jb, c.rb] w W) ⟨HJ.out.setBad true, HC.out.setCell _ (by simp)⟩ ?_
      clear HJ HC cb fb hl1
      rintro V ⟨hj, hc⟩
      have HJ := Lib.hid hj
      have HC := Lib.hid hc
      have q0 := hj.cf 0 (by omega)
      have g0 := hj.fz 0
      have hl1 := hj.lt
      have h2 := hj.setF 0 (by omega) (g % 2)
      rw [E0.out] at h2
      have H2 := Lib.hid h2
      clear hj hc h2
      go_upto_region 3 with fail
      refine cut_world (fun W => JR jb c { j with bad := true, f := updI j.f 0 (g % 2) } s1 W ∧ Chg [jb, c.rb] w W) ⟨H2.out, HC.out.setCell _ (by simp)⟩ ?_
      clear HJ HC q0 g0 hl1 H2
      rintro V2 ⟨hj, hc⟩
      have HJ := Lib.hid hj
      have HC := Lib.hid hc
      have q0 := hj.cf 1 (by omega)
      have g0 := hj.fz 1
      have hl1 := hj.lt
      have h2 := hj.setF 1 (by omega) (g / 2 % 2)
      rw [E1.out] at h2
      have H2 := Lib.hid h2
      clear hj hc h2
      go_upto_region 4 with fail
      refine cut_world (fun W => JR jb c { j with bad := true, f := updI (updI j.f 0 (g % 2)) 1 (g / 2 % 2) } s1 W ∧ Chg [jb, c.rb] w W) ⟨H2.out, HC.out.setCell _ (by simp)⟩ ?_
      clear HJ HC q0 g0 hl1 H2
      rintro V3 ⟨hj, hc⟩
      have HJ := Lib.hid hj
      have HC := Lib.hid hc
      have q0 := hj.cf 2 (by omega)
      have g0 := hj.fz 2
      have hl1 := hj.lt
      have h2 := hj.setF 2 (by omega) (g / 4)
      rw [E2.out] at h2
      have H2 := Lib.hid h2
      clear hj hc h2
      go_wp2_with fail
      go_end0
      refine ⟨rfl, ?_, HC.out.setCell _ (by simp)⟩
      rw [HJH.out]
      have e16 : (false || decide (16 ≤ g)) = true := by rw [d16]; rfl
      rw [e16]
      exact H2.out
    · skip
      go_upto_region 2 with fail
      refine cut_world (fun W => JR jb c { j with bad := true } s1 W ∧ Chg [jb, c.rb] w W) ⟨HJ.out.setBad true, HC.out.setCell _ (by simp)⟩ ?_
      clear HJ HC cb fb hl1
      rintro V ⟨hj, hc⟩
      have HJ := Lib.hid hj
      have HC := Lib.hid hc
      have q0 := hj.cf 0 (by omega)
      have g0 := hj.fz 0
      have hl1 := hj.lt
      have h2 := hj.setF 0 (by omega) (g % 2)
      rw [E0.out] at h2
      have H2 := Lib.hid h2
      clear hj hc h2
      go_upto_region 3 with fail
      refine cut_world (fun W => JR jb c { j with bad := true, f := updI j.f 0 (g % 2) } s1 W ∧ Chg [jb, c.rb] w W) ⟨H2.out, HC.out.setCell _ (by simp)⟩ ?_
      clear HJ HC q0 g0 hl1 H2
      rintro V2 ⟨hj, hc⟩
      have HJ := Lib.hid hj
      have HC := Lib.hid hc
      have q0 := hj.cf 1 (by omega)
      have g0 := hj.fz 1
      have hl1 := hj.lt
      have h2 := hj.setF 1 (by omega) (g / 2 % 2)
      rw [E1.out] at h2
      have H2 := Lib.hid h2
      clear hj hc h2
      go_upto_region 4 with fail
      refine cut_world (fun W => JR jb c { j with bad := true, f := updI (updI j.f 0 (g % 2)) 1 (g / 2 % 2) } s1 W ∧ Chg [jb, c.rb] w W) ⟨H2.out, HC.out.setCell _ (by simp)⟩ ?_
      clear HJ HC q0 g0 hl1 H2
      rintro V3 ⟨hj, hc⟩
      have HJ := Lib.hid hj
      have HC := Lib.hid hc
      have q0 := hj.cf 2 (by omega)
      have g0 := hj.fz 2
      have hl1 := hj.lt
      have h2 := hj.setF 2 (by omega) (g / 4)
      rw [E2.out] at h2
      have H2 := Lib.hid h2
      clear hj hc h2
      go_wp2_with fail
      go_end0
      refine ⟨rfl, ?_, HC.out.setCell _ (by simp)⟩
      rw [HJH.out]
      have e16 : (true || decide (16 ≤ g)) = true := by rw [d16]; rfl
      rw [e16]
      exact H2.out
  · have d16 : decide (16 ≤ g) = false := decide_eq_false h16
    cases bd
    · skip
      go_upto_region 2 with fail
      refine cut_world (fun W => JR jb c { j with bad := false } s1 W ∧ Chg [jb, c.rb] w W) ⟨HJ.out.setBad false, HC.out.setCell _ (by simp)⟩ ?_
      clear HJ HC cb fb hl1
      rintro V ⟨hj, hc⟩
      have HJ := Lib.hid hj
      have HC := Lib.hid hc
      have q0 := hj.cf 0 (by omega)
      have g0 := hj.fz 0
      have hl1 := hj.lt
      have h2 := hj.setF 0 (by omega) (g % 2)
      rw [E0.out] at h2
      have H2 := Lib.hid h2
      clear hj hc h2
      go_upto_region 3 with fail
      refine cut_world (fun W => JR jb c { j with bad := false, f := updI j.f 0 (g % 2) } s1 W ∧ Chg [jb, c.rb] w W) ⟨H2.out, HC.out.setCell _ (by simp)⟩ ?_
      clear HJ HC q0 g0 hl1 H2
      rintro V2 ⟨hj, hc⟩
      have HJ := Lib.hid hj
      have HC := Lib.hid hc
      have q0 := hj.cf 1 (by omega)
      have g0 := hj.fz 1
      have hl1 := hj.lt
      have h2 := hj.setF 1 (by omega) (g / 2 % 2)
      rw [E1.out] at h2
      have H2 := Lib.hid h2
      clear hj hc h2
      go_upto_region 4 with fail
      refine cut_world (fun W => JR jb c { j with bad := false, f := updI (updI j.f 0 (g % 2)) 1 (g / 2 % 2) } s1 W ∧ Chg [jb, c.rb] w W) ⟨H2.out, HC.out.setCell _ (by simp)⟩ ?_
      clear HJ HC q0 g0 hl1 H2
      rintro V3 ⟨hj, hc⟩
      have HJ := Lib.hid hj
      have HC := Lib.hid hc
      have q0 := hj.cf 2 (by omega)
      have g0 := hj.fz 2
      have hl1 := hj.lt
      have h2 := hj.setF 2 (by omega) (g / 4)
      rw [E2.out] at h2
      have H2 := Lib.hid h2
      clear hj hc h2
      go_wp2_with fail
      go_end0
      refine ⟨rfl, ?_, HC.out.setCell _ (by simp)⟩
      rw [HJH.out]
      have e16 : (false || decide (16 ≤ g)) = false := by rw [d16]; rfl
      rw [e16]
      exact H2.out
    · skip
      go_upto_region 2 with fail
      refine cut_world (fun W => JR jb c { j with bad := true } s1 W ∧ Chg [jb, c.rb] w W) ⟨HJ.out.setBad true, HC.out.setCell _ (by simp)⟩ ?_
      clear HJ HC cb fb hl1
      rintro V ⟨hj, hc⟩
      have HJ := Lib.hid hj
      have HC := Lib.hid hc
      have q0 := hj.cf 0 (by omega)
      have g0 := hj.fz 0
      have hl1 := hj.lt
      have h2 := hj.setF 0 (by omega) (g % 2)
      rw [E0.out] at h2
      have H2 := Lib.hid h2
      clear hj hc h2
      go_upto_region 3 with fail
      refine cut_world (fun W => JR jb c { j with bad := true, f := updI j.f 0 (g % 2) } s1 W ∧ Chg [jb, c.rb] w W) ⟨H2.out, HC.out.setCell _ (by simp)⟩ ?_
      clear HJ HC q0 g0 hl1 H2
      rintro V2 ⟨hj, hc⟩
      have HJ := Lib.hid hj
      have HC := Lib.hid hc
      have q0 := hj.cf 1 (by omega)
      have g0 := hj.fz 1
      have hl1 := hj.lt
      have h2 := hj.setF 1 (by omega) (g / 2 % 2)
      rw [E1.out] at h2
      have H2 := Lib.hid h2
      clear hj hc h2
      go_upto_region 4 with fail
      refine cut_world (fun W => JR jb c { j with bad := true, f := updI (updI j.f 0 (g % 2)) 1 (g / 2 % 2) } s1 W ∧ Chg [jb, c.rb] w W) ⟨H2.out, HC.out.setCell _ (by simp)⟩ ?_
      clear HJ HC q0 g0 hl1 H2
      rintro V3 ⟨hj, hc⟩
      have HJ := Lib.hid hj
      have HC := Lib.hid hc
      have q0 := hj.cf 2 (by omega)
      have g0 := hj.fz 2
      have hl1 := hj.lt
      have h2 := hj.setF 2 (by omega) (g / 4)
      rw [E2.out] at h2
      have H2 := Lib.hid h2
      clear hj hc h2
      go_wp2_with fail
      go_end0
      refine ⟨rfl, ?_, HC.out.setCell _ (by simp)⟩
      rw [HJH.out]
      have e16 : (true || decide (16 ≤ g)) = true := by rw [d16]; rfl
      rw [e16]
      exact H2.out
end Go.Proofs.YtbcdnbbpkikppaaDoor
end

section
namespace Go.Proofs.YtbcdnbbpkikppaaDoor
open Go.RowKit Go.BigFrame
set_option linter.unusedSimpArgs false
set_option linter.unusedVariables false
abbrev TFr := 35
abbrev TPv := 30
abbrev i64t : Nat → IntKind := fun _ => .i64
def zeroF : Nat → Int := fun _ => 0
def frC (f : Nat → Int) : Nat → Value := fun j => fcell j (f j)
theorem zeroFr_eq : Tryd.zeroCells35 = av 94 (frC zeroF) := by kernel_rfl
theorem infoFr : (Tryd.prog.info? TFr).map (·.size) = some 94 := by kernel_rfl
theorem infoPv : (Tryd.prog.info? TPv).map (·.size) = some 10 := by kernel_rfl
theorem fr_one (f : Nat → Int) : (av 94 (frC f)).all (·.oneCell') = true := by
  rw [Array.all_eq_true]
  intro i hi
  have : (av 94 (frC f))[i] = fcell i (f i) := by simp [av, frC]
  rw [this]
  unfold fcell
  split <;> rfl
theorem alloc_three' (w : World) (o p q : Obj) : (((w.alloc o).alloc p).alloc q).heap[w.heap.size]? = some o :=
  (alloc_old _ _ _ (by simp; omega)).trans (alloc_two w o p)
end Go.Proofs.YtbcdnbbpkikppaaDoor
end

section
namespace Go
open Go.RowKit
theorem results_row_tmp3 {P : Program} {fn : Func} {p u u2 : Tmp} {ty : TypeId} (h : fn.results = #[.cell p ty, .tmp u, .tmp u2]) (tmps : Array Value) (w : World) (g : Nat) (t : TypeId) (cs : Array Value) (fr : Nat × Nat) (d : TypeDesc) (v v2 : Value)
    (hp : tmps.getD p undef = .pointer (some ⟨g, 0, none⟩)) (hv : tmps.getD u undef = v) (hv2 : tmps.getD u2 undef = v2) (hg : w.heap[g]? = some (.cells cs t fr))
    (hu : P.underlying ty = some d) (hd : (match d with | .struct _ | .array _ _ => true | _ => false) = true) (hi : (P.info? ty).map (·.size) = some cs.size) :
    (results fn tmps).run P w = .ok (.tuple #[.agg cs, v, v2]) w := by
  have e : (results fn tmps).run P w =
      ((asAddr (tmps.getD p undef)).run P w).andThen fun a w₁ => ((loadVar ty a).run P w₁).andThen fun v w₂ => .ok (.tuple #[v, tmps.getD u undef, tmps.getD u2 undef]) w₂ := by
    simp only [results, h]
    simp [Sem.run_bind, Result.andThen]
  rw [e, hp, hv, hv2]
  simp [asAddr, run_loadVar_row w g t ty cs fr d hg hu hd hi, Result.andThen]
end Go
namespace Go.Proofs.YtbcdnbbpkikppaaDoor
open Go.RowKit Go.BigFrame
set_option linter.unusedSimpArgs false
set_option linter.unusedVariables false
abbrev TMo := 53
/-- The call's frame: the mode, the energies ahead, the result. -/
structure RW (w : World) (B : Nat) (sz ch : Int) (prev : Nat → Int) (W : World) : Prop where
  below : Below B w W
  mo : W.heap[B]? = some (.cells #[.int .i64 sz, .int .i64 ch] TMo (0, 0))
  pv : Bx (B + 1) TPv i64t 10 prev W
  rs : Bv (B + 2) TFr 94 (frC zeroF) W
theorem RW.keep {w B sz ch prev} {W W' : World} (h : RW w B sz ch prev W) (hb : Below W.heap.size W W') : RW w B sz ch prev W' := by
  have h0 := (block_facts h.mo).2.2
  have h1 := (block_facts h.pv).2.2
  have h2 := (block_facts h.rs).2.2
  exact ⟨h.below.trans (hb.mono (by omega)), (hb.block _ h0).trans h.mo, (hb.block _ h1).trans h.pv, (hb.block _ h2).trans h.rs⟩
theorem RW.m0 {w B sz ch prev} {W : World} (h : RW w B sz ch prev W) : W.cell? ⟨B, 0, none⟩ = some (.int .i64 sz) := (block_facts h.mo).1 0
theorem RW.m1 {w B sz ch prev} {W : World} (h : RW w B sz ch prev W) : W.cell? ⟨B, 1, none⟩ = some (.int .i64 ch) := (block_facts h.mo).1 1
theorem rw_new (w : World) (sz ch : Int) (prev : Nat → Int) : RW w w.heap.size sz ch prev (((w.alloc (.cells #[.int .i64 sz, .int .i64 ch] TMo (0, 0))).alloc (.cells (ag i64t 10 prev) TPv (0, 0))).alloc (.cells Tryd.zeroCells35 TFr (0, 0))) := by
  refine ⟨by (repeat' (first | with_reducible (first | exact Below.refl _ _ | assumption | refine Below.alloc ?_ ?_ _ | refine below_grew ?_ ?_ _ | refine Below.setCell ?_ ?_ _ | refine Below.drew ?_ | refine below_drewN ?_ _) | omega | (simp; done) | (simp; omega))), alloc_three' _ _ _ _, ?_, ?_⟩
  · exact (alloc_old _ _ _ (by simp)).trans (alloc_secondOf _ _ _)
  · have h := alloc_at ((w.alloc (.cells #[.int .i64 sz, .int .i64 ch] TMo (0, 0))).alloc (.cells (ag i64t 10 prev) TPv (0, 0))) (.cells Tryd.zeroCells35 TFr (0, 0))
    rw [zeroFr_eq] at h
    have e : ((w.alloc (.cells #[.int .i64 sz, .int .i64 ch] TMo (0, 0))).alloc (.cells (ag i64t 10 prev) TPv (0, 0))).heap.size = w.heap.size + 2 := by simp
    rw [e] at h
    exact h
end Go.Proofs.YtbcdnbbpkikppaaDoor
end

section
namespace Go.Proofs.YtbcdnbbpkikppaaDoor
open Go.RowKit Go.BigFrame
set_option linter.unusedSimpArgs false
set_option linter.unusedVariables false
theorem RdAt.keep2 {c : RC} {s : RS} {l : List Nat} {w w' : World} (h : RdAt c s w) (hc : Chg l w w') (h1 : c.rb ∉ l) (h2 : 0 < c.n → c.g ∉ l) : RdAt c s w' :=
  ⟨hc.keepB h.blk h1, fun hn => by obtain ⟨a1, a2, a3⟩ := h.adr hn; exact ⟨a1, Nat.lt_of_lt_of_le a2 hc.size, a3⟩, fun i hi => by
    obtain ⟨a1, a2, a3⟩ := h.adr (by omega)
    exact ⟨(hc.cell c.g i a2 (h2 (by omega))).trans (h.byt i hi).1, (h.byt i hi).2⟩⟩
/-- The call's frame, beside a reader that goes on. -/
structure RR (w : World) (B : Nat) (c : RC) (sz ch : Int) (prev : Nat → Int) (W : World) : Prop where
  chg : Chg [c.rb] w W
  mo : W.heap[B]? = some (.cells #[.int .i64 sz, .int .i64 ch] TMo (0, 0))
  pv : Bx (B + 1) TPv i64t 10 prev W
  rs : Bv (B + 2) TFr 94 (frC zeroF) W
  lt : c.rb < B
  wB : w.heap.size ≤ B
theorem RR.size {w B c sz ch prev} {W : World} (h : RR w B c sz ch prev W) : B + 2 < W.heap.size := (block_facts h.rs).2.2
theorem RR.go {w B c sz ch prev} {W W' : World} {jb : Nat} (h : RR w B c sz ch prev W) (hc : Chg [jb, c.rb] W W') (hj : B + 2 < jb) : RR w B c sz ch prev W' := by
  have hl := h.lt
  refine ⟨h.chg.drop hc (fun i hi => ?_), hc.keepB h.mo (by simp; omega), hc.keepB h.pv (by simp; omega), hc.keepB h.rs (by simp; omega), h.lt, h.wB⟩
  simp only [List.mem_cons, List.not_mem_nil, or_false] at hi ⊢
  have := h.wB
  rcases hi with h1 | h1
  · exact .inr (by omega)
  · exact .inl h1
theorem RR.keep {w B c sz ch prev} {W W' : World} (h : RR w B c sz ch prev W) (hb : Below W.heap.size W W') : RR w B c sz ch prev W' := by
  exact h.go (jb := B + 3) (Chg.of_below hb) (by omega)
theorem RR.m0 {w B c sz ch prev} {W : World} (h : RR w B c sz ch prev W) : W.cell? ⟨B, 0, none⟩ = some (.int .i64 sz) := (block_facts h.mo).1 0
theorem RR.m1 {w B c sz ch prev} {W : World} (h : RR w B c sz ch prev W) : W.cell? ⟨B, 1, none⟩ = some (.int .i64 ch) := (block_facts h.mo).1 1
theorem rr_new (w : World) (c : RC) (hl : c.rb < w.heap.size) (sz ch : Int) (prev : Nat → Int) : RR w w.heap.size c sz ch prev (((w.alloc (.cells #[.int .i64 sz, .int .i64 ch] TMo (0, 0))).alloc (.cells (ag i64t 10 prev) TPv (0, 0))).alloc (.cells Tryd.zeroCells35 TFr (0, 0))) := by
  have h := rw_new w sz ch prev
  exact ⟨Chg.of_below h.below, h.mo, h.pv, h.rs, hl, Nat.le_refl _⟩
def startJ (sz ch : Int) (tt : TypeId) (tx : Value) (prev : Nat → Int) : JSt := { f := zeroF, sz := sz, ch := ch, tv := .iface tt tx, prev := prev, bad := false }
theorem range_av {w : World} {b T N F} (h : Bv b T N F w) (M : Nat) (hM : M ≤ N) (G : Nat → Value) (hG : ∀ i, i < M → F i = G i) : w.rangeAt b 0 (av M G).toList := by
  intro j v hj
  rw [av_toList] at hj
  have hj' : j < M := by
    have := (List.getElem?_eq_some_iff.1 hj).1
    simpa using this
  simp only [List.getElem?_map, List.getElem?_range hj', Option.map_some, Option.some.injEq] at hj
  subst hj
  rw [Nat.zero_add, h.cell j (by omega), hG j hj']
set_option maxHeartbeats 8000000 in
set_option maxRecDepth 100000 in
theorem readSil (c : RC) (s : RS) (hok : RsOk s) (tt : TypeId) (tx : Value) (sz ch : Int) (hR : RightP sz ch) (prev : Nat → Int) (h16 : getF s 32 < 16) (hs : getF s 32 % 2 = 1) (s1 : RS) (hs1 : oneS c s 32 = s1) (hleft : 0 ≤ s1.left c)
    (hk : s.taken ≤ 900000) (hk1 : s1.taken ≤ 1000000) (hr1 : s1.raws ≤ 1000000) (hn : c.n ≤ 1000000) (w : World) (h : RdAt c s w) :
    Calls Tryd.prog 21 #[.pointer (some ⟨c.rb, 0, none⟩), .iface tt tx, .agg #[.int .i64 sz, .int .i64 ch], .agg (ag i64t 10 prev)] w fun e w' => e = .returned (.tuple #[.agg (av 94 (frC (headF zeroF (getF s 32)))), .int .u32 s1.rng, .bool true]) ∧ RdAt c s1 w' ∧ Chg [c.rb] w w' := by
  have hmr := Lib.hid (fun w => modeRight sz ch w)
  rw [decide_eq_true hR] at hmr
  have hhd := Lib.hid (fun jb w h => jrHead jb c (startJ sz ch tt tx prev) s hok w h hk hn)
  have hbd := getF_bd s hok 32 (by omega)
  have hrg := Lib.hid (fun w h => rdRng c s1 w h)
  have hlf := Lib.hid (fun w h => rdLeft c s1 w h hn hk1 hr1)
  have H := Lib.hid h
  have hl := h.lt
  have hgl := fun hp => (h.adr hp).2.1
  have HGL := Lib.hid hgl
  rw [hs1] at hhd
  obtain ⟨g, hg⟩ : ∃ g, getF s 32 = g := ⟨_, rfl⟩
  rw [hg] at hhd hbd h16 hs ⊢
  obtain ⟨L, hL⟩ : ∃ L, s1.left c = L := ⟨_, rfl⟩
  rw [hL] at hlf hleft
  obtain ⟨b0, b1⟩ := hbd
  clear h hR hs1 hg hok hk hk1 hr1 hL hgl
  go_enter Tryd.func21, Tryd.ntmps21
  go_upto_region 1 with fail
  refine cut_world (fun W => RR w w.heap.size c sz ch prev W ∧ RdAt c s W) ⟨rr_new w c hl sz ch prev, H.out.keep0 (by (repeat' (first | with_reducible (first | exact Below.refl _ _ | assumption | refine Below.alloc ?_ ?_ _ | refine below_grew ?_ ?_ _ | refine Below.setCell ?_ ?_ _ | refine Below.drew ?_ | refine below_drewN ?_ _) | omega | (simp; done) | (simp; omega))))⟩ ?_
  rintro V ⟨hV, hrd⟩
  generalize hBd : w.heap.size = B at *
  have HBd := Lib.hid hBd
  have HV := Lib.hid hV
  have HRD := Lib.hid hrd
  have m0 := hV.m0
  have m1 := hV.m1
  clear hV hBd H hrd
  go_wp2_with fail
  refine (hmr.out _).mono ?_
  rintro e w1 ⟨rfl, hb1⟩
  have hV1 := HV.out.keep hb1
  have HV1 := Lib.hid hV1
  have HRD1 := Lib.hid (HRD.out.keep0 hb1)
  have m0 := hV1.m0
  have m1 := hV1.m1
  clear hb1 HV hV1 hmr HRD
  go_upto_region 4 with (first | ((with_reducible refine gate_ld TPv _ rfl ?_); refine load_row_g rfl TPv _ rfl (B + 1) rfl _ (ag i64t 10 prev) (0, 0) _ HV1.out.pv Tryd.underlying30 rfl (by rw [ag_size]; exact infoPv) ?_) | (refine build_to rfl TJR _ rfl (av 109 (jcell c.rb (startJ sz ch tt tx prev))) (by kernel_rfl) ?_))
  have hsz := HV1.out.size
  refine cut_world (fun W => RR w B c sz ch prev W ∧ JR w1.heap.size c (startJ sz ch tt tx prev) s W) ⟨HV1.out.keep (by (repeat' (first | with_reducible (first | exact Below.refl _ _ | assumption | refine Below.alloc ?_ ?_ _ | refine below_grew ?_ ?_ _ | refine Below.setCell ?_ ?_ _ | refine Below.drew ?_ | refine below_drewN ?_ _) | omega | (simp; done) | (simp; omega)))), ⟨alloc_at _ _, HRD1.out.keep0 (by (repeat' (first | with_reducible (first | exact Below.refl _ _ | assumption | refine Below.alloc ?_ ?_ _ | refine below_grew ?_ ?_ _ | refine Below.setCell ?_ ?_ _ | refine Below.drew ?_ | refine below_drewN ?_ _) | omega | (simp; done) | (simp; omega)))), by have := HRD1.out.lt; omega, fun hp => by have := (HRD1.out.adr hp).2.1; omega⟩⟩ ?_
  clear HV1 HRD1 m0 m1
  generalize w1.heap.size = jb at *
  rintro V2 ⟨hV, hJ⟩
  have HV2 := Lib.hid hV
  have HJ2 := Lib.hid hJ
  clear hV hJ
  go_wp2_with fail
  refine (hhd.out jb _ HJ2.out).mono ?_
  rintro e w3 ⟨rfl, hJ3, hc3⟩
  have HV3 := Lib.hid (HV2.out.go hc3 hsz)
  have HJ3 := Lib.hid hJ3
  clear hJ3 hc3 HV2 HJ2 hhd
  go_wp2_with fail
  refine (hrg.out _ HJ3.out.rd).mono ?_
  rintro e w4 ⟨rfl, hb4⟩
  have HV4 := Lib.hid (HV3.out.keep hb4)
  have hJ4 := HJ3.out.keep hb4
  have HJ4 := Lib.hid hJ4
  have cb := hJ4.cb
  have c0 := hJ4.cf 0 (by omega)
  have e0 : (headJ (startJ sz ch tt tx prev) g).bad = false := by
    show (false || decide (16 ≤ g)) = false
    rw [decide_eq_false (by omega)]; rfl
  have e1 : fcell 0 ((headJ (startJ sz ch tt tx prev) g).f 0) = .bool true := by
    have : (headJ (startJ sz ch tt tx prev) g).f 0 = g % 2 := rfl
    rw [this, hs]; rfl
  rw [e0] at cb
  rw [e1] at c0
  clear hb4 HV3 HJ3 hJ4 e0 e1 hrg
  go_wp2_with fail
  refine (hlf.out _ HJ4.out.rd).mono ?_
  rintro e w5 ⟨rfl, hb5⟩
  have HV5 := Lib.hid (HV4.out.keep hb5)
  have hJ5 := HJ4.out.keep hb5
  have HJ5 := Lib.hid hJ5
  have cb := hJ5.cb
  have HRA := Lib.hid (range_av hJ5.blk 94 (by omega) (frC (headF zeroF g)) (fun i hi => by unfold jcell; rw [if_pos hi]; rfl))
  clear hb5 HV4 HJ4 hJ5 c0 hlf cb
  have hlt0 : ¬ L < 0 := by omega
  go_wp2_with (first | ((with_reducible refine gate_ld TFr _ rfl ?_); refine load_mid_g rfl TFr _ rfl jb 0 rfl _ _ HRA.out Tryd.underlying35 rfl (by rw [Array.length_toList, av_size]; exact infoFr) ?_) | (refine wpList_store_mid rfl TFr _ _ rfl (B + 1 + 1) 0 (av 94 (frC (headF zeroF g))) rfl rfl ?hth ?hin3 ?hon ?_; (case hth => exact there_row HV5.out.rs _ (by rw [av_size, av_size]; exact Nat.le_refl _)); (case hin3 => rw [av_size]; exact infoFr); (case hon => exact fr_one (headF zeroF g))))
  have q1 := cells_all HV5.out.rs (N := 94) (av_size _ _) (cs := av 94 (frC (headF zeroF g))) (av_size _ _)
  have hcg : Chg [B + 2] w5 (w5.setCells (B + 2) 0 (av 94 (frC (headF zeroF g))).toList) := (Chg.refl _ _).setCells _ (by simp)
  have hrb := HV5.out.lt
  have hfin : RdAt c s1 (w5.setCells (B + 2) 0 (av 94 (frC (headF zeroF g))).toList) := HJ5.out.rd.keep2 hcg (by simp; omega) (fun hp => by have := HGL.out hp; have := HBd.out; simp; omega)
  have hfc : Chg [c.rb] w (w5.setCells (B + 2) 0 (av 94 (frC (headF zeroF g))).toList) := HV5.out.chg.drop hcg (fun i hi => .inr (by have := HBd.out; simp only [List.mem_singleton] at hi; omega))
  refine bodyPost_ret (v := .tuple #[.agg (av 94 (frC (headF zeroF g))), .int .u32 s1.rng, .bool true]) ?_ rfl ⟨rfl, hfin, hfc⟩
  exact results_row_tmp3 rfl _ _ (B + 2) _ _ _ _ _ _ rfl rfl rfl q1 Tryd.underlying35 rfl (by rw [av_size]; exact infoFr)
end Go.Proofs.YtbcdnbbpkikppaaDoor
end

section
namespace Go.Proofs.YtbcdnbbpkikppaaDoor
open Go.RowKit Go.BigFrame Go.Vec Go.Cost
set_option linter.unusedSimpArgs false
set_option linter.unusedVariables false
theorem ShareAt.keep {hb sh : Nat} {w w' : World} (h : ShareAt hb sh w) (hb' : Below w.heap.size w w') : ShareAt hb sh w' :=
  ⟨(hb'.block _ (block_facts h.sha).2.2).trans h.sha, h.sheet.below (sheet_lt h.sheet) hb'⟩
theorem shareNew (sh : Nat) (w : World) (hS : SheetOK sh w) : Calls Tryd.prog 53 #[.pointer (some ⟨sh, 0, none⟩)] w fun e w' => ∃ hb, e = .returned (.pointer (some ⟨hb, 0, none⟩)) ∧ w.heap.size ≤ hb ∧ ShareAt hb sh w' ∧ Below w.heap.size w w' := by
  have HS := Lib.hid hS
  clear hS
  go_enter Tryd.func53, Tryd.ntmps53
  go_wp2_with fail
  go_ret
  exact ⟨w.heap.size, rfl, Nat.le_refl _, ⟨alloc_at _ _, HS.out.below (sheet_lt HS.out) (by (repeat' (first | with_reducible (first | exact Below.refl _ _ | assumption | refine Below.alloc ?_ ?_ _ | refine below_grew ?_ ?_ _ | refine Below.setCell ?_ ?_ _ | refine Below.drew ?_ | refine below_drewN ?_ _) | omega | (simp; done) | (simp; omega))))⟩, by (repeat' (first | with_reducible (first | exact Below.refl _ _ | assumption | refine Below.alloc ?_ ?_ _ | refine below_grew ?_ ?_ _ | refine Below.setCell ?_ ?_ _ | refine Below.drew ?_ | refine below_drewN ?_ _) | omega | (simp; done) | (simp; omega)))⟩
end Go.Proofs.YtbcdnbbpkikppaaDoor
end

section
namespace Go.Proofs.YtbcdnbbpkikppaaDoor
open Go.RowKit Go.BigFrame Go.Vec Go.Cost
set_option linter.unusedSimpArgs false
set_option linter.unusedVariables false
def frLeaf (i : Nat) : Leaf := if i < 2 then .bool else .int .i64
def feq (i : Nat) (x y : Int) : Bool := if i < 2 then (x != 0) == (y != 0) else x == y
theorem layoutFr : layout Tryd.prog 5 TFr = some ((List.range 94).map frLeaf) := by kernel_rfl
theorem fit_fr (f : Nat → Int) : ∀ l : List Nat, fitAll (l.map frLeaf) (l.map (frC f)) = true
  | [] => rfl
  | i :: l => by
    simp only [List.map_cons, fitAll, Bool.and_eq_true]
    refine ⟨?_, fit_fr f l⟩
    unfold frLeaf frC fcell
    split <;> simp [Leaf.fits]
theorem cellsEq_fr (f g : Nat → Int) : ∀ l : List Nat, cellsEq (l.map (frC f)) (l.map (frC g)) = l.all fun i => feq i (f i) (g i)
  | [] => rfl
  | i :: l => by
    simp only [List.map_cons, cellsEq, List.all_cons, cellsEq_fr f g l]
    congr 1
    unfold frC fcell feq
    split <;> rfl
theorem eqFr (f g : Nat → Int) (w : World) : (Op.equalIn 10000 TFr (.agg (av 94 (frC f))) (.agg (av 94 (frC g)))).run Tryd.prog w = .ok ((List.range 94).all fun i => feq i (f i) (g i)) w := by
  have h := eq_flat (P := Tryd.prog) TFr 5 _ layoutFr (by decide) (by kernel_rfl) ((List.range 94).map (frC f)) ((List.range 94).map (frC g)) (fit_fr f _) (fit_fr g _) w
  rw [cellsEq_fr] at h
  exact h
theorem eqFr_yes (f g : Nat → Int) (h : ∀ i, i < 94 → f i = g i) (w : World) : (Op.equalIn 10000 TFr (.agg (av 94 (frC f))) (.agg (av 94 (frC g)))).run Tryd.prog w = .ok true w := by
  rw [eqFr]
  congr 1
  rw [List.all_eq_true]
  intro i hi
  rw [h i (by simpa using hi)]
  unfold feq
  split <;> simp
abbrev TPl := 111
abbrev TQk := 122
set_option maxHeartbeats 1000000 in
theorem framePlain (w : World) : Calls Tryd.prog 22 #[] w fun e w' => ∃ b m, e = .returned (.iface TPl (.agg #[.pointer (some ⟨b, 0, none⟩)])) ∧ w.heap.size ≤ b ∧ w.heap.size ≤ m ∧ Book b m w' ∧ Below w.heap.size w w' := by
  have hb := Lib.hid (fun w => bookNew w)
  go_enter Tryd.func22, Tryd.ntmps22
  go_wp2_with fail
  refine (hb.out _).mono ?_
  rintro e w1 ⟨b, m, rfl, hbs, hms, hB, hb1⟩
  have HB := Lib.hid hB
  have HB1 := Lib.hid hb1
  clear hB hb1
  go_wp2_with fail
  go_ret
  exact ⟨b, m, rfl, hbs, hms, HB.out, HB1.out⟩
set_option maxHeartbeats 1000000 in
theorem frameQuick (w : World) : Calls Tryd.prog 24 #[] w fun e w' => ∃ tb hb sh, e = .returned (.iface TQk (.agg #[.pointer (some ⟨tb, 0, none⟩), .pointer (some ⟨hb, 0, none⟩)])) ∧ w.heap.size ≤ tb ∧ TableOK tb w' ∧ ShareAt hb sh w' ∧ Below w.heap.size w w' := by
  have ht := Lib.hid (fun w => tabNew w)
  have hs := Lib.hid (fun t w hT ht => sheetNew t w hT ht)
  have hn := Lib.hid (fun sh w hS => shareNew sh w hS)
  go_enter Tryd.func24, Tryd.ntmps24
  go_wp2_with fail
  refine (ht.out _).mono ?_
  rintro e w1 ⟨tb, rfl, htb, hT, hb1⟩
  have HT := Lib.hid hT
  have HB1 := Lib.hid hb1
  have hlt : tb < w1.heap.size := by obtain ⟨cs, h1, _⟩ := hT; exact (Array.getElem?_eq_some_iff.1 h1).1
  clear hT hb1
  go_wp2_with fail
  refine (hs.out tb w1 HT.out hlt).mono ?_
  rintro e w2 ⟨sb, rfl, hsb, hS, hb2⟩
  have HS := Lib.hid hS
  have HB2 := Lib.hid (HB1.out.trans (hb2.mono HB1.out.size))
  have HT2 := Lib.hid (show TableOK tb w2 by obtain ⟨cs, h1, h2⟩ := HT.out; exact ⟨cs, (hb2.block _ hlt).trans h1, h2⟩)
  have hlt2 := Nat.lt_of_lt_of_le hlt hb2.size
  clear hS hb2
  go_wp2_with fail
  refine (hn.out sb w2 HS.out).mono ?_
  rintro e w3 ⟨hb, rfl, hhb, hA, hb3⟩
  have HA := Lib.hid hA
  have HB3 := Lib.hid (HB2.out.trans (hb3.mono HB2.out.size))
  have HT3 := Lib.hid (show TableOK tb w3 by obtain ⟨cs, h1, h2⟩ := HT2.out; exact ⟨cs, (hb3.block _ hlt2).trans h1, h2⟩)
  clear hA hb3
  go_wp2_with fail
  go_ret
  exact ⟨tb, hb, sb, rfl, htb, HT3.out, HA.out, HB3.out⟩
end Go.Proofs.YtbcdnbbpkikppaaDoor
end

section
namespace Go
open Go.RowKit
theorem Chg.of_only {b : Nat} {l : List Nat} {w w' : World} (h : Proofs.YtbcdnbbpkikppaaDoor.Only b w w') (hb : b ∈ l) : Chg l w w' :=
  ⟨h.os, h.tape, h.output, by rw [h.size]; exact Nat.le_refl _, fun k _ hn => h.block k (fun e => hn (by rw [e]; exact hb))⟩
theorem Chg.of_bk {m : Nat} {l : List Nat} {w w' : World} (h : BkInv m w w') (hm : m ∈ l) : Chg l w w' :=
  ⟨h.os, h.tape, h.output, h.size, fun k hk hn => h.block k hk (fun e => hn (by rw [← e]; exact hm))⟩
end Go
namespace Go.Proofs.YtbcdnbbpkikppaaDoor
open Go.RowKit Go.BigFrame Go.Vec Go.Proofs.YtbcdnbbpkikppaaDoorW.PrintMore
set_option linter.unusedSimpArgs false
set_option linter.unusedVariables false
section
variable {P : Program}
theorem splice_av (N : Nat) (F : Nat → Value) (off : Nat) (l : List Int) (hN : off + l.length ≤ N) : ((av N F).toList.take off ++ (ints l ++ (av N F).toList.drop (off + l.length))).toArray = av N (ovr F off l) := by
  have hil : (ints l).length = l.length := by simp [ints]
  apply Array.ext'
  rw [av_toList]
  apply List.ext_getElem?
  intro i
  by_cases hi : i < N
  · have e2 : (av N (ovr F off l)).toList[i]? = some (ovr F off l i) := by rw [av_toList, List.getElem?_map, List.getElem?_range hi]; rfl
    rw [e2]
    unfold ovr
    by_cases h1 : i < off
    · rw [List.getElem?_append_left (by rw [List.length_take, List.length_map, List.length_range]; omega), List.getElem?_take_of_lt h1, List.getElem?_map, List.getElem?_range hi, if_neg (by omega)]
      rfl
    · rw [List.getElem?_append_right (by rw [List.length_take, List.length_map, List.length_range]; omega), List.length_take, List.length_map, List.length_range, Nat.min_eq_left (by omega)]
      by_cases h2 : i < off + l.length
      · rw [if_pos (by omega), List.getElem?_append_left (by omega)]
        unfold ints
        rw [List.getElem?_map, List.getD_eq_getElem?_getD, List.getElem?_eq_getElem (by omega)]
        rfl
      · rw [if_neg (by omega), List.getElem?_append_right (by omega), hil, List.getElem?_drop, List.getElem?_map, show off + l.length + (i - off - l.length) = i by omega, List.getElem?_range hi]
        rfl
  · rw [List.getElem?_eq_none (by simp [ints]; omega), List.getElem?_eq_none (by rw [av_toList]; simp; omega)]
/-- copy of as many whole numbers over a part of a block. -/
theorem run_copy_bv (dT sT ty : TypeId) (elem : TypeId) (hu : P.underlying dT = some (.slice elem)) (hsz : (P.info? elem).map (·.size) = some 1) (B off n dCap sCap : Nat) (ad : Addr) (l : List Int) (hl : l.length = n) (w : World)
    (hx : ∀ j v, (ints l)[j]? = some v → w.cell? (ad.add j) = some v) {T : TypeId} {N : Nat} {F : Nat → Value} (hB : Bv B T N F w) (hN : off + n ≤ N) :
    ∃ w', (Builtin.copy_ #[dT, sT] ty #[.slice (some ⟨B, off, none⟩) n dCap, .slice (some ad) n sCap]).run P w = .ok (.int .i64 n) w' ∧ Only B w w' ∧ Bv B T N (ovr F off l) w' := by
  have hil : (ints l).length = n := by simp [ints, hl]
  have hr := run_copy_row (P := P) w dT sT ty elem B off n dCap ad n sCap (av N F) T (ints l) hu hsz hB (by rw [hil]; exact (Nat.min_self n).symm) hx (by rw [hil, av_size]; exact hN) (fun v hv => by obtain ⟨x, -, rfl⟩ := List.mem_map.1 hv; rfl)
  rw [List.append_assoc, hil] at hr
  refine ⟨_, hr, only_setRow _ _ _, ?_⟩
  have e := splice_av N F off l (by omega)
  rw [hl] at e
  rw [e]
  exact setRow_heap w B _ _ T _ hB
end
set_option maxHeartbeats 4000000 in
set_option maxRecDepth 100000 in
theorem plIntoNo (b m : Nat) (A : Option Addr) (n cap : Nat) (k i : Int) (hi : vF n k ≤ i) (w : World) (hB : Book b m w) :
    Calls Tryd.prog 152 #[.agg #[.pointer (some ⟨b, 0, none⟩)], .slice A n cap, .int .i64 k, .int .u64 i] w fun e w' => e = .returned (.bool false) ∧ BkInv m w w' := by
  have hu := Lib.hid (fun w hB => bkUnrank_no b m n k i hi w hB)
  have HB := Lib.hid hB
  clear hB hi
  go_enter Tryd.func152, Tryd.ntmps152
  go_wp2_with fail
  have hb0 : Below w.heap.size w (w.alloc (.cells #[.pointer (some ⟨b, 0, none⟩)] TPl (0, 0))) := by (repeat' (first | with_reducible (first | exact Below.refl _ _ | assumption | refine Below.alloc ?_ ?_ _ | refine below_grew ?_ ?_ _ | refine Below.setCell ?_ ?_ _ | refine Below.drew ?_ | refine below_drewN ?_ _) | omega | (simp; done) | (simp; omega)))
  have HI0 := Lib.hid (HB.out.refl.below hb0)
  refine (hu.out _ (HB.out.inv HI0.out)).mono ?_
  rintro e w1 ⟨rfl, hi1⟩
  have HI1 := Lib.hid (HI0.out.trans hi1)
  clear hi1 hb0
  go_wp2_with fail
  go_ret
  exact ⟨rfl, HI1.out⟩
set_option maxHeartbeats 4000000 in
set_option maxRecDepth 100000 in
theorem plInto0 (b m : Nat) (A : Option Addr) (cap : Nat) (k i : Int) (hk : 0 ≤ k ∧ k ≤ 32) (h0 : 0 ≤ i) (hi : i < vF 0 k) (w : World) (hB : Book b m w) :
    Calls Tryd.prog 152 #[.agg #[.pointer (some ⟨b, 0, none⟩)], .slice A 0 cap, .int .i64 k, .int .u64 i] w fun e w' => e = .returned (.bool true) ∧ BkInv m w w' := by
  have hu := Lib.hid (fun w hB => bkUnrank_yes b m 0 k i hk (by omega) h0 hi w hB)
  have HB := Lib.hid hB
  clear hB hi
  go_enter Tryd.func152, Tryd.ntmps152
  go_wp2_with fail
  have hb0 : Below w.heap.size w (w.alloc (.cells #[.pointer (some ⟨b, 0, none⟩)] TPl (0, 0))) := by (repeat' (first | with_reducible (first | exact Below.refl _ _ | assumption | refine Below.alloc ?_ ?_ _ | refine below_grew ?_ ?_ _ | refine Below.setCell ?_ ?_ _ | refine Below.drew ?_ | refine below_drewN ?_ _) | omega | (simp; done) | (simp; omega)))
  have HI0 := Lib.hid (HB.out.refl.below hb0)
  refine (hu.out _ (HB.out.inv HI0.out)).mono ?_
  rintro e w1 ⟨v', rfl, hown, hi1⟩
  have HI1 := Lib.hid (HI0.out.trans hi1)
  obtain ⟨A', c', rfl⟩ := own_slice' hown
  clear hi1 hb0 hown
  have hrun := run_copy_none (P := Tryd.prog) w1 60 60 3 3 A A' 0 cap 0 c' Tryd.underlying60 (by kernel_rfl) rfl
  go_wp2_with fail
  go_ret
  exact ⟨rfl, HI1.out⟩
set_option maxHeartbeats 4000000 in
set_option maxRecDepth 100000 in
theorem plInto (b m g o N : Nat) (T : TypeId) (F : Nat → Value) (n cap : Nat) (hn0 : 0 < n) (k i : Int) (hk : 0 ≤ k ∧ k ≤ 32) (hn : n ≤ 16) (h0 : 0 ≤ i) (hi : i < vF n k) (hon : o + n ≤ N) (w : World) (hB : Book b m w) (hF : Bv g T N F w) (hgm : g ≠ m) (hNT : T ≠ 154) :
    Calls Tryd.prog 152 #[.agg #[.pointer (some ⟨b, 0, none⟩)], .slice (some ⟨g, o, none⟩) n cap, .int .i64 k, .int .u64 i] w fun e w' => e = .returned (.bool true) ∧ Bv g T N (ovr F o (unk n k i)) w' ∧ Book b m w' ∧ Chg [g, m] w w' := by
  have hu := Lib.hid (fun w hB => bkUnrank_yes b m n k i hk hn h0 hi w hB)
  have HB := Lib.hid hB
  have HF := Lib.hid hF
  have HNT := Lib.hid hNT
  have hlen := unk_len n k i
  generalize unk n k i = l at *
  clear hB hi hF hNT
  go_enter Tryd.func152, Tryd.ntmps152
  go_wp2_with fail
  have hb0 : Below w.heap.size w (w.alloc (.cells #[.pointer (some ⟨b, 0, none⟩)] TPl (0, 0))) := by (repeat' (first | with_reducible (first | exact Below.refl _ _ | assumption | refine Below.alloc ?_ ?_ _ | refine below_grew ?_ ?_ _ | refine Below.setCell ?_ ?_ _ | refine Below.drew ?_ | refine below_drewN ?_ _) | omega | (simp; done) | (simp; omega)))
  have HI0 := Lib.hid (HB.out.refl.below hb0)
  refine (hu.out _ (HB.out.inv HI0.out)).mono ?_
  rintro e w1 ⟨v', rfl, hown, hi1⟩
  have hI1 := HI0.out.trans hi1
  have HI1 := Lib.hid hI1
  obtain ⟨g', c', rfl, hg1, hg2⟩ := own_form hown hn0
  have hcl := hown.cells (g := g') rfl
  have hFW : Bv g T N F w1 := (hI1.block g (block_facts HF.out).2.2 (fun e => hgm e.symm)).trans HF.out
  have HCL := Lib.hid hcl
  have HFW := Lib.hid hFW
  clear hi1 hb0 hown hI1 hcl hFW
  obtain ⟨w2, hrun, ho2, hf2⟩ := run_copy_bv (P := Tryd.prog) 60 60 3 3 Tryd.underlying60 (by kernel_rfl) g o n cap c' ⟨g', 0, none⟩ l hlen w1 HCL.out HFW.out hon
  have HO2 := Lib.hid ho2
  have HF2 := Lib.hid hf2
  clear ho2 hf2
  go_wp2_with fail
  go_ret
  refine ⟨rfl, HF2.out, ?_, (Chg.of_bk HI1.out (by simp)).trans (Chg.of_only HO2.out (by simp))⟩
  have hc := (Chg.of_bk (l := [m]) HI1.out (by simp))
  have hO := HO2.out
  have hmg : m ≠ g := fun e => hgm e.symm
  have hbI := HB.out.inv HI1.out
  have hbg : b ≠ g := fun e => by
    have h1 := hbI.book
    have h2 := HFW.out
    rw [e, h2] at h1
    exact HNT.out (by simpa using congrArg (fun x => match x with | some (Obj.cells _ t _) => t | _ => 0) h1)
  obtain ⟨es, clk, h1, h2⟩ := hbI.map
  exact ⟨(hO.block b hbg).trans hbI.book, hbI.ne, ⟨es, clk, (hO.block m hmg).trans h1, h2⟩⟩
end Go.Proofs.YtbcdnbbpkikppaaDoor
end

section
namespace Go.Proofs.YtbcdnbbpkikppaaDoor
open Go.RowKit Go.BigFrame Go.Vec Go.Proofs.YtbcdnbbpkikppaaDoorW.PrintWords Go.Proofs.YtbcdnbbpkikppaaDoorW.PrintLast Go.Proofs.YtbcdnbbpkikppaaDoorW.PrintMore
open RFrameTools
set_option linter.unusedSimpArgs false
set_option linter.unusedVariables false
set_option maxRecDepth 100000 in
theorem v10_table : ∀ n : Fin 17, ∀ k : Fin 33, spinetref10_V.f 200 (n.val : Int) (k.val : Int) = some (v n.val k.val : Nat) := by decide +kernel
theorem v10_any (n k : Int) : spinetref10_V.f 200 n k = some (vF n k) := by
  by_cases h : 0 ≤ n ∧ n ≤ 16 ∧ 0 ≤ k ∧ k ≤ 32
  · obtain ⟨h1, h2, h3, h4⟩ := h
    obtain ⟨N, rfl⟩ := Int.eq_ofNat_of_zero_le h1
    obtain ⟨K, rfl⟩ := Int.eq_ofNat_of_zero_le h3
    have := v10_table ⟨N, by omega⟩ ⟨K, by omega⟩
    simp only at this
    rw [this]
    unfold vF
    rw [if_pos (by omega)]
    simp
  · rw [vF_out n k h]
    unfold spinetref10_V.f
    by_cases h1 : n < 0
    · rw [if_pos h1]; rfl
    · rw [if_neg h1]
      by_cases h2 : n > 16
      · rw [if_pos h2]; rfl
      · rw [if_neg h2]
        by_cases h3 : k < 0
        · rw [if_pos h3]; rfl
        · rw [if_neg h3, decide_eq_true (by omega)]; rfl
theorem refV10 (n k : Int) (w : World) : Calls Tryd.prog 64 #[.int .i64 n, .int .i64 k] w fun e w' => e = .returned (.int .u64 (vF n k)) ∧ Drawn0 w w' := spinetref10_V.calls 200 n k _ w (v10_any n k)
theorem refV12 (n k : Int) (w : World) : Calls Tryd.prog 34 #[.int .i64 n, .int .i64 k] w fun e w' => e = .returned (.int .u64 (vF n k)) ∧ Below w.heap.size w w' :=
  (spinetref12_V.calls 200 n k (vF n k) w (by unfold spinetref12_V.f; rw [v10_any]; rfl)).mono fun e w' ⟨he, h⟩ => ⟨he, drawn_below h⟩
theorem size11 (a : Int) (h : -1000 ≤ a ∧ a ≤ 1000) : spinetref11_Size.f a = some (mag a) := by
  unfold spinetref11_Size.f mag
  split
  · rw [w64_id (by omega) (by omega)]; congr 1; omega
  · congr 1; omega
theorem intsC {A : Option Addr} {l : List Int} {w : World} (h : IntsAt A l w) (hm : l.length ≤ 1000000) : Kd.C (Kd.int .i64) w A l.length l := by
  refine ⟨rfl, by omega, fun hp => ?_⟩
  obtain ⟨b, off, rfl, -, hc⟩ := h hp
  refine ⟨_, rfl, fun j p hj => ⟨[.int .i64 p], rfl, rfl, fun i u hu => ?_⟩⟩
  have hj' : j < l.length := (List.getElem?_eq_some_iff.1 hj).1
  have hjd : l.getD j 0 = p := by rw [List.getD_eq_getElem?_getD, hj]; rfl
  cases i with
  | zero =>
    obtain rfl : Value.int .i64 p = u := by simpa using hu
    have e : (⟨b, off, none⟩ : Addr).add (j * (Kd.int .i64).sz + 0) = ⟨b, off + j, none⟩ := by
      have : j * (Kd.int .i64).sz + 0 = j := by show j * 1 + 0 = j; omega
      rw [this]; unfold Addr.add; split <;> simp_all
    rw [e, hc j hj', hjd]
  | succ i => simp at hu
theorem pulses_l0 (k : Nat) (x0 : List Int) (x3 x4 : Int) : spinetref11_Pulses.l0 (k + 1) x0 x3 x4 = if x4 < (x0.length : Int) then (if 0 ≤ x4 then ((spinetref11_Size.f (rd x0 x4)).bind fun t116 => (spinetref11_Pulses.l0 k x0 (wrap64 (x3 + t116)) (wrap64 (x4 + 1)))) else (none)) else (some x3) := rfl
theorem right_l0 (k : Nat) (x0 : List Int) (x3 x4 : Int) : spinetref11_Right.l0 (k + 1) x0 x3 x4 = if x4 < (x0.length : Int) then (if 0 ≤ x4 then (if (rd x0 x4) > 32 then (some false) else (if (rd x0 x4) < (-32) then (some false) else ((spinetref11_Size.f (rd x0 x4)).bind fun t152 => (spinetref11_Right.l0 k x0 (wrap64 (x3 + t152)) (wrap64 (x4 + 1)))))) else (none)) else (some (decide (x3 ≤ 32))) := rfl
theorem pul11_go (l : List Int) (hb : ∀ a ∈ l, -1000 ≤ a ∧ a ≤ 1000) (hl : l.length ≤ 1000) : ∀ (d j : Nat), j + d = l.length → spinetref11_Pulses.l0 (d + 1) l (pul (l.take j)) j = some (pul l)
  | 0, j, h => by
    obtain rfl : j = l.length := by omega
    rw [pulses_l0, if_neg (by omega), List.take_length]
  | d + 1, j, h => by
    have hj : j < l.length := by omega
    have hm := hb _ (getD_mem l j hj)
    have hts := take_snoc l j hj
    have hbd : 0 ≤ pul (l.take j) ∧ pul (l.take j) ≤ 1000000 := by
      refine ⟨pul_nn _, ?_⟩
      have : ∀ r : List Int, (∀ a ∈ r, -1000 ≤ a ∧ a ≤ 1000) → pul r ≤ 1000 * r.length := fun r => by
        induction r with
        | nil => intro _; show (0 : Int) ≤ _; simp
        | cons a r ih =>
          intro h
          have h1 := h a (by simp)
          have h2 := ih (fun b hb => h b (by simp [hb]))
          show mag a + pul r ≤ 1000 * ((r.length + 1 : Nat) : Int)
          unfold mag
          omega
      have := this (l.take j) (fun a ha => hb a (List.mem_of_mem_take ha))
      rw [List.length_take] at this
      omega
    have hmg : 0 ≤ mag (l.getD j 0) ∧ mag (l.getD j 0) ≤ 1000 := by unfold mag; omega
    rw [pulses_l0, if_pos (show (j : Int) < (l.length : Int) by omega), if_pos (show 0 ≤ (j : Int) by omega), rd_nat, size11 _ hm]
    rw [Option.bind_some, w64_id (by omega) (by omega), w64_id (by omega) (by omega)]
    have := pul11_go l hb hl d (j + 1) (by omega)
    rw [hts, pul_app] at this
    have e : pul [l.getD j 0] = mag (l.getD j 0) := by show mag _ + 0 = _; omega
    rw [e] at this
    exact this
theorem refPul11 (A : Option Addr) (l : List Int) (n cap : Nat) (hln : l.length = n) (hc : n ≤ cap) (hb : ∀ a ∈ l, -1000 ≤ a ∧ a ≤ 1000) (hn : n ≤ 1000) (w : World) (hx : IntsAt A l w) :
    Calls Tryd.prog 31 #[.slice A n cap] w fun e w' => e = .returned (.int .i64 (pul l)) ∧ Drawn0 w w' := by
  subst hln
  exact spinetref11_Pulses.calls (l.length + 1) A cap l (pul l) w (intsC hx (by omega)) hc (pul11_go l hb hn l.length 0 (by omega))
theorem right11_go (l : List Int) (hl : l.length ≤ 16) : ∀ (d j : Nat), j + d = l.length → (∀ a ∈ l.take j, mag a ≤ 32) → spinetref11_Right.l0 (d + 1) l (pul (l.take j)) j = some (decide (RightV l))
  | 0, j, h, hm => by
    obtain rfl : j = l.length := by omega
    rw [List.take_length] at hm ⊢
    rw [right_l0, if_neg (by omega)]
    congr 1
    exact decide_eq_decide.2 ⟨fun h => ⟨hl, hm, h⟩, fun h => h.2.2⟩
  | d + 1, j, h, hm => by
    have hj : j < l.length := by omega
    have hmem := getD_mem l j hj
    have hts := take_snoc l j hj
    have hbd := pul_bound _ hm
    rw [List.length_take] at hbd
    have hb0 := pul_nn (l.take j)
    rw [right_l0, if_pos (show (j : Int) < (l.length : Int) by omega), if_pos (show 0 ≤ (j : Int) by omega), rd_nat]
    by_cases h1 : l.getD j 0 > 32
    · rw [if_pos h1, decide_eq_false (fun hR => by have := hR.2.1 _ hmem; unfold mag at this; omega)]
    · rw [if_neg h1]
      by_cases h2 : l.getD j 0 < -32
      · rw [if_pos h2, decide_eq_false (fun hR => by have := hR.2.1 _ hmem; unfold mag at this; omega)]
      · have hmg : 0 ≤ mag (l.getD j 0) ∧ mag (l.getD j 0) ≤ 32 := by unfold mag; omega
        rw [if_neg h2, size11 _ (by omega)]
        rw [Option.bind_some, w64_id (by omega) (by omega), w64_id (by omega) (by omega)]
        have := right11_go l hl d (j + 1) (by omega) (fun a ha => by
          rw [hts] at ha
          rcases List.mem_append.1 ha with h | h
          · exact hm a h
          · rw [List.mem_singleton] at h; rw [h]; exact hmg.2)
        rw [hts, pul_app] at this
        have e : pul [l.getD j 0] = mag (l.getD j 0) := by show mag _ + 0 = _; omega
        rw [e] at this
        exact this
theorem refRight11 (A : Option Addr) (l : List Int) (n cap : Nat) (hln : l.length = n) (hc : n ≤ cap) (hn : n ≤ 1000) (w : World) (hx : IntsAt A l w) :
    Calls Tryd.prog 62 #[.slice A n cap] w fun e w' => e = .returned (.bool (decide (RightV l))) ∧ Drawn0 w w' := by
  subst hln
  refine spinetref11_Right.calls (l.length + 1) A cap l _ w (intsC hx (by omega)) hc ?_
  unfold spinetref11_Right.f
  by_cases h : (l.length : Int) > 16
  · rw [if_pos h, decide_eq_false (fun hR => by have := hR.1; omega)]
  · rw [if_neg h]
    exact right11_go l (by omega) l.length 0 (by omega) (fun a ha => by simp at ha)
theorem place11 (a : Int) (h : -1000 ≤ a ∧ a ≤ 1000) (w : World) : Calls Tryd.prog 86 #[.int .i64 a] w fun e w' => e = .returned (.int .i64 (place a)) ∧ Drawn0 w w' := by
  refine spinetref11_Place.calls a (place a) w ?_
  unfold spinetref11_Place.f place
  by_cases h1 : a > 0
  · rw [if_pos h1, if_pos h1, w64_id (x := 2 * a) (by omega) (by omega), w64_id (by omega) (by omega)]; congr 1; omega
  · rw [if_neg h1, if_neg h1, w64_id (by omega) (by omega)]; congr 1; omega
theorem ints11_go (l : List Int) (hl : l.length ≤ 1000) : ∀ (d j : Nat), j + d = l.length → spinetlaw11_Ints.l0 (d + 1) l l l.length j = some true
  | 0, j, h => by
    unfold spinetlaw11_Ints.l0
    rw [if_neg (by omega)]
  | d + 1, j, h => by
    unfold spinetlaw11_Ints.l0
    rw [if_pos (by omega), if_pos (by omega), if_pos (by omega), if_pos (by omega), if_pos rfl, w64_id (by omega) (by omega)]
    exact ints11_go l hl d (j + 1) (by omega)
theorem lawInts (A A' : Option Addr) (l : List Int) (n cap cap' : Nat) (hln : l.length = n) (hc : n ≤ cap) (hc' : n ≤ cap') (hn : n ≤ 1000) (w : World) (hx : IntsAt A l w) (hy : IntsAt A' l w) :
    Calls Tryd.prog 35 #[.slice A n cap, .slice A' n cap'] w fun e w' => e = .returned (.bool true) ∧ Drawn0 w w' := by
  subst hln
  refine spinetlaw11_Ints.calls (l.length + 1) A cap l A' cap' l true w (intsC hx (by omega)) hc (intsC hy (by omega)) hc' ?_
  unfold spinetlaw11_Ints.f
  rw [if_pos rfl]
  exact ints11_go l hn l.length 0 (by omega)
end Go.Proofs.YtbcdnbbpkikppaaDoor
end

section
namespace Go.Proofs.YtbcdnbbpkikppaaDoor
open Go.RowKit Go.BigFrame Go.Vec Go.Cost
set_option linter.unusedSimpArgs false
set_option linter.unusedVariables false
theorem allocF_five' (s c t bud : Int) : ∃ l0 l1 l2 l3 l4, allocF s c t bud = [l0, l1, l2, l3, l4] := by
  by_cases h : RightP s c
  · exact five (allocF_fits s c t bud h).1.1
  · exact ⟨_, _, _, _, _, allocF_not s c t bud h⟩
set_option maxHeartbeats 1000000 in
theorem refAlloc15' (s c t bud : Int) (hR : RightP s c) (w : World) : Calls Tryd.prog 32 #[.int .i64 s, .int .i64 c, .int .i64 t, .int .i64 bud] w fun e w' => e = .returned (aggOf (allocF s c t bud)) ∧ Below w.heap.size w w' := by
  have hr := Lib.hid (fun w => refAlloc s c t bud hR w)
  obtain ⟨l0, l1, l2, l3, l4, hl⟩ := allocF_five' s c t bud
  have a1 : aggOf (allocF s c t bud) = .agg #[.int .i64 l0, .int .i64 l1, .int .i64 l2, .int .i64 l3, .int .i64 l4] := by rw [hl]; rfl
  rw [a1] at hr ⊢
  clear hR hl a1
  go_enter Tryd.func32, Tryd.ntmps32
  go_wp2_with fail
  refine (hr.out _).mono ?_
  rintro e w' ⟨rfl, hb1⟩; obtain ⟨x1, rfl⟩ := below_as_grew hb1; clear hb1
  go_wp2_with fail
  refine bodyPost_ret (v := _) (by simp [results, Tryd.results32, go_sem]; rfl) rfl ⟨?_, ?_⟩
  · rfl
  · (repeat' (first | with_reducible (first | exact Below.refl _ _ | assumption | refine Below.alloc ?_ ?_ _ | refine below_grew ?_ ?_ _ | refine Below.setCell ?_ ?_ _ | refine Below.drew ?_ | refine below_drewN ?_ _) | omega | (simp; done) | (simp; omega)))
set_option maxHeartbeats 2000000 in
set_option maxRecDepth 100000 in
theorem plRank_no (b m : Nat) (A : Option Addr) (l : List Int) (n cap : Nat) (hln : l.length = n) (hn : n ≤ 1000) (hcap : n ≤ cap) (hb : ∀ a ∈ l, -9223372036854775808 ≤ a ∧ a ≤ 9223372036854775807) (hR : ¬ RightV l) (w : World) (hx : IntsAt A l w) (hA : A = none → cap = 0) :
    Calls Tryd.prog 153 #[.agg #[.pointer (some ⟨b, 0, none⟩)], .slice A n cap] w fun e w' => e = .returned (.tuple #[.int .u64 0, .bool false]) ∧ Below w.heap.size w w' := by
  have hr := Lib.hid (fun w hx => bkRank_no b m A l n cap hln hn hcap hb hR w hx hA)
  have HX := Lib.hid hx
  clear hx hln hb hR hA
  go_enter Tryd.func153, Tryd.ntmps153
  go_wp2_with fail
  refine (hr.out _ (HX.out.keep (by (repeat' (first | with_reducible (first | exact Below.refl _ _ | assumption | refine Below.alloc ?_ ?_ _ | refine below_grew ?_ ?_ _ | refine Below.setCell ?_ ?_ _ | refine Below.drew ?_ | refine below_drewN ?_ _) | omega | (simp; done) | (simp; omega)))))).mono ?_
  rintro e w' ⟨rfl, hb1⟩; obtain ⟨x1, rfl⟩ := below_as_grew hb1; clear hb1
  go_wp2_with fail
  refine bodyPost_ret (v := _) (by simp [results, Tryd.results153, go_sem]; rfl) rfl ⟨?_, ?_⟩
  · rfl
  · (repeat' (first | with_reducible (first | exact Below.refl _ _ | assumption | refine Below.alloc ?_ ?_ _ | refine below_grew ?_ ?_ _ | refine Below.setCell ?_ ?_ _ | refine Below.drew ?_ | refine below_drewN ?_ _) | omega | (simp; done) | (simp; omega)))
set_option maxHeartbeats 2000000 in
set_option maxRecDepth 100000 in
theorem plRank_yes (b m : Nat) (A : Option Addr) (l : List Int) (n cap : Nat) (hln : l.length = n) (hcap : n ≤ cap) (hR : RightV l) (w : World) (hB : Book b m w) (hx : IntsAt A l w) (hA : A = none → cap = 0) (hsl : 0 < n → ∀ g off, A = some ⟨g, off, none⟩ → g ≠ m) :
    Calls Tryd.prog 153 #[.agg #[.pointer (some ⟨b, 0, none⟩)], .slice A n cap] w fun e w' => e = .returned (.tuple #[.int .u64 (rankL l), .bool true]) ∧ BkInv m w w' := by
  have hr := Lib.hid (fun w hB hx => bkRank_yes b m A l n cap hln hcap hR w hB hx hA hsl)
  have HX := Lib.hid hx
  have HB := Lib.hid hB
  generalize rankL l = R at *
  clear hx hB hln hR hA hsl
  go_enter Tryd.func153, Tryd.ntmps153
  go_wp2_with fail
  have hb0 : Below w.heap.size w (w.alloc (.cells #[.pointer (some ⟨b, 0, none⟩)] TPl (0, 0))) := by (repeat' (first | with_reducible (first | exact Below.refl _ _ | assumption | refine Below.alloc ?_ ?_ _ | refine below_grew ?_ ?_ _ | refine Below.setCell ?_ ?_ _ | refine Below.drew ?_ | refine below_drewN ?_ _) | omega | (simp; done) | (simp; omega)))
  have HI0 := Lib.hid (HB.out.refl.below hb0)
  refine (hr.out _ (HB.out.inv HI0.out) (HX.out.keep hb0)).mono ?_
  rintro e w1 ⟨rfl, hi1⟩
  have HI1 := Lib.hid (HI0.out.trans hi1)
  clear hi1 hb0
  go_wp2_with fail
  refine bodyPost_ret (v := _) (by simp [results, Tryd.results153, go_sem]; rfl) rfl ⟨?_, ?_⟩
  · rfl
  · exact HI1.out
set_option maxHeartbeats 2000000 in
set_option maxRecDepth 100000 in
theorem plAlloc (b m : Nat) (s c t bud : Int) (w : World) (hB : Book b m w) (hT : WidthW w) :
    Calls Tryd.prog 151 #[.agg #[.pointer (some ⟨b, 0, none⟩)], .agg #[.int .i64 s, .int .i64 c], .int .i64 t, .int .i64 bud] w fun e w' => e = .returned (aggOf (allocF s c t bud)) ∧ BkInv m w w' := by
  have hr := Lib.hid (fun w hB hT => alloc_any s c t bud b m w hB hT)
  have HB := Lib.hid hB
  have HT := Lib.hid hT
  obtain ⟨l0, l1, l2, l3, l4, hl⟩ := allocF_five' s c t bud
  have a1 : aggOf (allocF s c t bud) = .agg #[.int .i64 l0, .int .i64 l1, .int .i64 l2, .int .i64 l3, .int .i64 l4] := by rw [hl]; rfl
  rw [a1] at hr ⊢
  clear hl a1 hB hT
  have hml := HB.out.lt_m
  go_enter Tryd.func151, Tryd.ntmps151
  go_upto_region 1 with fail
  have hb0 : Below w.heap.size w (((w.alloc (.cells #[.pointer (some ⟨b, 0, none⟩)] TPl (0, 0))).alloc (.cells #[.int .i64 s, .int .i64 c] 53 (0, 0))).alloc (.cells #[.int .i64 0, .int .i64 0, .int .i64 0, .int .i64 0, .int .i64 0] 29 (0, 0))) := by (repeat' (first | with_reducible (first | exact Below.refl _ _ | assumption | refine Below.alloc ?_ ?_ _ | refine below_grew ?_ ?_ _ | refine Below.setCell ?_ ?_ _ | refine Below.drew ?_ | refine below_drewN ?_ _) | omega | (simp; done) | (simp; omega)))
  refine cut_world (fun W => BkInv m w W ∧ W.cell? ⟨w.heap.size, 0, none⟩ = some (.pointer (some ⟨b, 0, none⟩)) ∧ W.cell? ⟨w.heap.size + 1, 0, none⟩ = some (.int .i64 s) ∧ W.cell? ⟨w.heap.size + 1, 1, none⟩ = some (.int .i64 c) ∧ W.heap[w.heap.size + 1 + 1]? = some (.cells #[.int .i64 0, .int .i64 0, .int .i64 0, .int .i64 0, .int .i64 0] 29 (0, 0)) ∧ WidthW W) ⟨HB.out.refl.below hb0, by simp [go_sem], by simp [go_sem], by simp [go_sem], alloc_third _ _ _ _, HT.out.below hb0⟩ ?_
  rintro V ⟨hV, v0, v1, v2, v3, v4⟩
  have HV := Lib.hid hV
  have V4 := Lib.hid v4
  have V3 := Lib.hid v3
  have hs := (block_facts v3).2.2
  clear hV v3 hb0 v4
  go_wp2_with fail
  refine (hr.out _ (HB.out.inv HV.out) V4.out).mono ?_
  rintro e w2 ⟨rfl, hk2⟩
  have hk3 := BkInv.of_bk (HB.out.inv HV.out).lt_m hk2
  have HK := Lib.hid (HV.out.trans hk3)
  have r3 := (hk3.block (w.heap.size + 1 + 1) hs (by omega)).trans V3.out
  obtain ⟨r0, r1, r2⟩ := block_facts r3
  have q0 : w2.cell? ⟨w.heap.size + 1 + 1, 0, none⟩ = some (.int .i64 0) := r0 0
  have q1 : w2.cell? ⟨w.heap.size + 1 + 1, 1, none⟩ = some (.int .i64 0) := r0 1
  have q2 : w2.cell? ⟨w.heap.size + 1 + 1, 2, none⟩ = some (.int .i64 0) := r0 2
  have q3 : w2.cell? ⟨w.heap.size + 1 + 1, 3, none⟩ = some (.int .i64 0) := r0 3
  have q4 : w2.cell? ⟨w.heap.size + 1 + 1, 4, none⟩ = some (.int .i64 0) := r0 4
  clear hk2 hk3 HV v0 v1 v2 r0 hr V3 V4 hs
  go_wp2_with fail
  have s0 := setCell_own w2 (w.heap.size + 1 + 1) 0 _ _ _ (.int .i64 l0) r3
  have s1 := setCell_own _ (w.heap.size + 1 + 1) 1 _ _ _ (.int .i64 l1) s0
  have s2 := setCell_own _ (w.heap.size + 1 + 1) 2 _ _ _ (.int .i64 l2) s1
  have s3 := setCell_own _ (w.heap.size + 1 + 1) 3 _ _ _ (.int .i64 l3) s2
  have s4 := setCell_own _ (w.heap.size + 1 + 1) 4 _ _ _ (.int .i64 l4) s3
  obtain ⟨f0, -, -⟩ := block_facts s4
  have g0 := f0 0
  have g1 := f0 1
  have g2 := f0 2
  have g3 := f0 3
  have g4 := f0 4
  have hB4 : Below w.heap.size w2 (((((w2.setCell ⟨w.heap.size + 1 + 1, 0, none⟩ (.int .i64 l0)).setCell ⟨w.heap.size + 1 + 1, 1, none⟩ (.int .i64 l1)).setCell ⟨w.heap.size + 1 + 1, 2, none⟩ (.int .i64 l2)).setCell ⟨w.heap.size + 1 + 1, 3, none⟩ (.int .i64 l3)).setCell ⟨w.heap.size + 1 + 1, 4, none⟩ (.int .i64 l4)) := by (repeat' (first | with_reducible (first | exact Below.refl _ _ | assumption | refine Below.alloc ?_ ?_ _ | refine below_grew ?_ ?_ _ | refine Below.setCell ?_ ?_ _ | refine Below.drew ?_ | refine below_drewN ?_ _) | omega | (simp; done) | (simp; omega)))
  generalize ((((w2.setCell ⟨w.heap.size + 1 + 1, 0, none⟩ (.int .i64 l0)).setCell ⟨w.heap.size + 1 + 1, 1, none⟩ (.int .i64 l1)).setCell ⟨w.heap.size + 1 + 1, 2, none⟩ (.int .i64 l2)).setCell ⟨w.heap.size + 1 + 1, 3, none⟩ (.int .i64 l3)).setCell ⟨w.heap.size + 1 + 1, 4, none⟩ (.int .i64 l4) = w3 at *
  refine bodyPost_ret (v := .agg #[.int .i64 l0, .int .i64 l1, .int .i64 l2, .int .i64 l3, .int .i64 l4]) ?_ rfl ⟨rfl, HK.out.below hB4⟩
  simp [results, Tryd.results151, go_sem, g0, g1, g2, g3, g4]
end Go.Proofs.YtbcdnbbpkikppaaDoor
end

section
namespace Go.Proofs.YtbcdnbbpkikppaaDoor
open Go.RowKit Go.BigFrame Go.Vec
set_option linter.unusedSimpArgs false
set_option linter.unusedVariables false
set_option maxHeartbeats 2000000 in
theorem tabIntoNo (b : Nat) (A : Option Addr) (n cap : Nat) (k i : Int) (hi : vF n k ≤ i) (w : World) (hT : TableOK b w) :
    Calls Tryd.prog 168 #[.pointer (some ⟨b, 0, none⟩), .slice A n cap, .int .i64 k, .int .u64 i] w fun e w' => e = .returned (.bool false) ∧ Below w.heap.size w w' := by
  have hv := Lib.hid (fun w hT => tabV b w hT n k)
  have HT := Lib.hid hT
  generalize vF n k = vv at *
  clear hT
  go_enter Tryd.func168, Tryd.ntmps168
  go_wp2_with fail
  refine (hv.out _ HT.out).mono ?_
  rintro e w' ⟨rfl, rfl⟩
  go_wp2_with fail
  go_ret
  exact ⟨rfl, by (repeat' (first | with_reducible (first | exact Below.refl _ _ | assumption | refine Below.alloc ?_ ?_ _ | refine below_grew ?_ ?_ _ | refine Below.setCell ?_ ?_ _ | refine Below.drew ?_ | refine below_drewN ?_ _) | omega | (simp; done) | (simp; omega)))⟩
set_option maxHeartbeats 2000000 in
theorem tabInto0 (b : Nat) (A : Option Addr) (cap : Nat) (k i : Int) (hi : i < vF 0 k) (w : World) (hT : TableOK b w) :
    Calls Tryd.prog 168 #[.pointer (some ⟨b, 0, none⟩), .slice A 0 cap, .int .i64 k, .int .u64 i] w fun e w' => e = .returned (.bool true) ∧ Below w.heap.size w w' := by
  have hv := Lib.hid (fun w hT => tabV b w hT 0 k)
  have HT := Lib.hid hT
  generalize vF 0 k = vv at *
  clear hT
  go_enter Tryd.func168, Tryd.ntmps168
  go_wp2_with fail
  refine (hv.out _ HT.out).mono ?_
  rintro e w' ⟨rfl, rfl⟩
  go_wp2_with fail
  go_rounds 1
  go_ret
  exact ⟨rfl, by (repeat' (first | with_reducible (first | exact Below.refl _ _ | assumption | refine Below.alloc ?_ ?_ _ | refine below_grew ?_ ?_ _ | refine Below.setCell ?_ ?_ _ | refine Below.drew ?_ | refine below_drewN ?_ _) | omega | (simp; done) | (simp; omega)))⟩
theorem av_of (cur : Array Value) : av cur.size (fun i => cur.getD i undef) = cur := by
  apply Array.ext
  · simp [av]
  · intro i h1 h2
    simp [av, Array.getD, h2]
theorem own_bv {w : World} {base n : Nat} {v : Value} {l : List Int} (h : w.ownsRow base TIn 1 v n (ints l)) (hl : l.length = n) (hn : 0 < n) :
    ∃ g c N F, v = .slice (some ⟨g, 0, none⟩) n c ∧ n ≤ c ∧ base ≤ g ∧ Bv g TIn N F w ∧ n ≤ N ∧ ∀ i, i < n → F i = .int .i64 (l.getD i 0) := by
  rcases h.2 with ⟨_, h0⟩ | ⟨g, cap, cur, hv, hg, hh, h1, h2, h3, h4⟩
  · omega
  · refine ⟨g, cap, cur.size, fun i => cur.getD i undef, hv, h1, hg, ?_, by omega, fun i hi => ?_⟩
    · unfold Bv; rw [av_of]; exact hh
    · have e : (ints l)[i]? = some (.int .i64 (l.getD i 0)) := by
        unfold ints
        rw [List.getElem?_map, List.getElem?_eq_getElem (by omega), List.getD_eq_getElem?_getD, List.getElem?_eq_getElem (by omega)]
        rfl
      rw [← h4, List.getElem?_take_of_lt (by omega)] at e
      have e2 : cur[i]? = some (.int .i64 (l.getD i 0)) := by simpa using e
      show cur.getD i undef = _
      rw [Array.getD_eq_getD_getElem?, e2]
      rfl
theorem ovr_same (F : Nat → Value) (l : List Int) (h : ∀ i, i < l.length → F i = .int .i64 (l.getD i 0)) (i : Nat) : ovr F 0 l i = F i := by
  unfold ovr
  by_cases e : 0 ≤ i ∧ i < 0 + l.length
  · rw [if_pos e, Nat.sub_zero, h i (by omega)]
  · rw [if_neg e]
theorem own_ints {w : World} {base n : Nat} {v : Value} {l : List Int} (h : w.ownsRow base TIn 1 v n (ints l)) (hl : l.length = n) : ∃ A c, v = .slice A n c ∧ n ≤ c ∧ IntsAt A l w := by
  by_cases hn : 0 < n
  · obtain ⟨g, c, N, F, hv, hc, hg, hb, hN, hF⟩ := own_bv h hl hn
    exact ⟨_, _, hv, hc, fun _ => ⟨g, 0, rfl, (block_facts hb).2.2, fun i hi => by rw [Nat.zero_add, hb.cell i (by omega), hF i (by omega)]⟩⟩
  · obtain ⟨A, c, hv⟩ := own_slice' h
    have : n = 0 := by omega
    subst this
    exact ⟨A, c, hv, Nat.zero_le _, fun hp => by omega⟩
theorem qkIntoSame (b base n : Nat) (v : Value) (l : List Int) (hl : l.length = n) (hR : RightV l) (w : World) (hT : TableOK b w) (ho : w.ownsRow base TIn 1 v n (ints l)) (hb : b < base) :
    Calls Tryd.prog 168 #[.pointer (some ⟨b, 0, none⟩), v, .int .i64 (pul l), .int .u64 (rankL l)] w fun e w' => e = .returned (.bool true) ∧ Below w.heap.size w w' := by
  have hr := rank_lt l hR.1 hR.2.2
  rw [hl] at hr
  by_cases hn : 0 < n
  · obtain ⟨g, c, N, F, rfl, hc, hg, hB, hN, hF⟩ := own_bv ho hl hn
    have hu := unk_rank l hR.1 hR.2.2
    rw [hl] at hu
    refine (tabInto b g 0 N TIn F n c (pul l) (rankL l) ⟨pul_nn l, hR.2.2⟩ (by rw [← hl]; exact hR.1) hr.1 hr.2 (by omega) (by omega) w hT hB).mono ?_
    rintro e w' ⟨he, hB', hc'⟩
    refine ⟨he, hc'.os, hc'.tape, hc'.output, hc'.size, fun k hk => ?_⟩
    by_cases e : k = g
    · subst e
      rw [hu] at hB'
      have := hB'.ext fun i _ => ovr_same F l (fun i hi => hF i (by omega)) i
      exact this.trans hB.symm
    · exact hc'.block k hk (by simpa using e)
  · obtain rfl : n = 0 := by omega
    obtain ⟨A, c, rfl⟩ := own_slice' ho
    exact tabInto0 b A c _ _ hr.2 w hT
theorem plIntoSame (b m base n : Nat) (v : Value) (l : List Int) (hl : l.length = n) (hR : RightV l) (w : World) (hB : Book b m w) (ho : w.ownsRow base TIn 1 v n (ints l)) (hb : m < base) :
    Calls Tryd.prog 152 #[.agg #[.pointer (some ⟨b, 0, none⟩)], v, .int .i64 (pul l), .int .u64 (rankL l)] w fun e w' => e = .returned (.bool true) ∧ BkInv m w w' := by
  have hr := rank_lt l hR.1 hR.2.2
  rw [hl] at hr
  by_cases hn : 0 < n
  · obtain ⟨g, c, N, F, rfl, hc, hg, hF0, hN, hF⟩ := own_bv ho hl hn
    have hu := unk_rank l hR.1 hR.2.2
    rw [hl] at hu
    refine (plInto b m g 0 N TIn F n c hn (pul l) (rankL l) ⟨pul_nn l, hR.2.2⟩ (by rw [← hl]; exact hR.1) hr.1 hr.2 (by omega) w hB hF0 (by omega) (by decide)).mono ?_
    rintro e w' ⟨he, hB', hbk, hc'⟩
    refine ⟨he, hc'.os, hc'.tape, hc'.output, hc'.size, hB.lt_m, hbk.map, fun k hk hne => ?_⟩
    by_cases e : k = g
    · subst e
      rw [hu] at hB'
      have := hB'.ext fun i _ => ovr_same F l (fun i hi => hF i (by omega)) i
      exact this.trans hF0.symm
    · exact hc'.block k hk (by simp; exact ⟨e, fun e => hne e.symm⟩)
  · obtain rfl : n = 0 := by omega
    obtain ⟨A, c, rfl⟩ := own_slice' ho
    exact plInto0 b m A c _ _ ⟨pul_nn l, hR.2.2⟩ hr.1 hr.2 w hB
theorem own_empty (Z : World) (e : TypeId) (size : Nat) : (Z.alloc (.cells #[] e)).ownsRow Z.heap.size e size (.slice (some ⟨Z.heap.size, 0, none⟩) 0 0) 0 [] :=
  ⟨by simp, .inr ⟨Z.heap.size, 0, #[], rfl, Nat.le_refl _, alloc_at _ _, Nat.le_refl _, Nat.zero_le _, by simp, by simp⟩⟩
/-- append([]int{}, x...). -/
theorem append_ints {ops : Array Oper} {rest : List Oper} {o : Oper} {a : Act} {Q : Exit → Act → World → Prop} {Z : World} (hgd : o.guard = none) (s x : Operand)
    (ho : o.op = .call { callee := .builtin .append, args := #[s, x], argTypes := #[60, 60] }) (hs : a.eval s = .slice (some ⟨Z.heap.size, 0, none⟩) 0 0) (A : Option Addr) (l : List Int) (n cap : Nat) (hl : l.length = n) (hx : a.eval x = .slice A n cap)
    (hX : IntsAt A l Z) (hA : A = none → cap = 0) (hcap : n ≤ cap) (hn : n ≤ 1000)
    (h : ∀ v' w', w'.ownsRow Z.heap.size TIn 1 v' n (ints l) → Below Z.heap.size Z w' → wpList Tryd.prog ops Q rest (a.put o.dst v') w') :
    wpList Tryd.prog ops Q (o :: rest) a (Z.alloc (.cells #[] TIn)) := by
  obtain ⟨i0, hi0, hz0, hz1, hz2⟩ := info_parts intInfo
  cases A with
  | none =>
    obtain rfl : cap = 0 := hA rfl
    obtain rfl : n = 0 := by omega
    obtain rfl : l = [] := List.eq_nil_of_length_eq_zero hl
    exact wpList_append_own_none hgd s x 60 ho Z.heap.size TIn i0 1 Tryd.underlying60 hi0 _ 0 [] hs (own_empty _ _ _) hx (h _ _ (own_empty _ _ _) (by (repeat' (first | with_reducible (first | exact Below.refl _ _ | assumption | refine Below.alloc ?_ ?_ _ | refine below_grew ?_ ?_ _ | refine Below.setCell ?_ ?_ _ | refine Below.drew ?_ | refine below_drewN ?_ _) | omega | (simp; done) | (simp; omega)))))
  | some ad =>
    refine wpList_append_own_at (w := Z.alloc (.cells #[] TIn)) hgd s x 60 ho Z.heap.size TIn i0 (.int .i64 0) 1 8 Tryd.underlying60 hi0 hz0 hz1 hz2 rfl (by decide) (.slice (some ⟨Z.heap.size, 0, none⟩) 0 0) 0 [] hs (own_empty _ _ _) ad n cap (ints l) hx (by simp [ints]; omega) ?_ (fun u hu => by obtain ⟨x, -, rfl⟩ := List.mem_map.1 hu; rfl) (maxLen_le (by omega)) (by omega) (by simp) ?_
    · intro j u hj
      have hj' : j < l.length := by have := (List.getElem?_eq_some_iff.1 hj).1; simpa [ints] using this
      obtain ⟨g, off, hg, hgl, hc⟩ := hX (by omega)
      simp only [Option.some.injEq] at hg
      subst hg
      rw [Addr.add_lit]
      have e1 : (Z.alloc (.cells #[] TIn)).cell? ⟨g, off + j, none⟩ = Z.cell? ⟨g, off + j, none⟩ := by unfold World.cell?; rw [alloc_old _ _ _ hgl]
      rw [e1, hc j hj']
      unfold ints at hj
      rw [List.getElem?_map, List.getElem?_eq_getElem hj'] at hj
      rw [List.getD_eq_getElem?_getD, List.getElem?_eq_getElem hj']
      exact hj
    · intro v' w' hown hgr _ _
      rw [List.nil_append, Nat.zero_add] at hown
      exact h v' w' hown ⟨hgr.os, hgr.tape, hgr.output, Nat.le_trans (by simp) hgr.size, fun i hi => (hgr.block i (by simp; omega) (fun e => by simp [Value.ownBlock] at e; omega)).trans (alloc_old _ _ _ hi)⟩
end Go.Proofs.YtbcdnbbpkikppaaDoor
end

section
namespace Go.Proofs.YtbcdnbbpkikppaaDoor
open Go.RowKit Go.BigFrame Go.Vec
set_option linter.unusedSimpArgs false
set_option linter.unusedVariables false
theorem place_n (m : Nat) : place (m : Int) = 2 * m - 1 ∧ place (-(m : Int)) = 2 * m := by unfold place; constructor <;> split <;> omega
theorem IntsAt.tail {a : Int} {l : List Int} {g off : Nat} {w : World} (h : IntsAt (some ⟨g, off, none⟩) (a :: l) w) : IntsAt (some ⟨g, off + 1, none⟩) l w := fun hp => by
  obtain ⟨g', off', h1, h2, h3⟩ := h (by simp)
  simp only [Option.some.injEq, Addr.mk.injEq, and_true] at h1
  obtain ⟨rfl, rfl⟩ := h1
  refine ⟨_, _, rfl, h2, fun i hi => ?_⟩
  have := h3 (i + 1) (by simp; omega)
  rw [show off + 1 + i = off + (i + 1) by omega, this]
  rfl
theorem RightV.tail {a : Int} {l : List Int} (h : RightV (a :: l)) : RightV l := by
  obtain ⟨h1, h2, h3⟩ := h
  rw [List.length_cons] at h1
  have h4 : mag a + pul l ≤ 32 := h3
  have := mag_nn a
  exact ⟨by omega, fun b hb => h2 b (by simp [hb]), by omega⟩
set_option maxHeartbeats 8000000 in
set_option maxRecDepth 100000 in
theorem refRank11 : ∀ (l : List Int) (A : Option Addr) (n cap : Nat) (w : World), l.length = n → n ≤ cap → RightV l → IntsAt A l w →
    Calls Tryd.prog 63 #[.slice A n cap] w fun e w' => e = .returned (.int .u64 (rankL l)) ∧ Below w.heap.size w w'
  | [], A, n, cap, w, hn, hc, hR, hx => by
    obtain rfl : n = 0 := by simpa using hn.symm
    clear hR hx
    have HE := Lib.hid (show rankL [] = 0 from rfl)
    go_enter Tryd.func63, Tryd.ntmps63
    go_wp2_with fail
    go_ret
    exact ⟨ret_int HE.out.symm, by (repeat' (first | with_reducible (first | exact Below.refl _ _ | assumption | refine Below.alloc ?_ ?_ _ | refine below_grew ?_ ?_ _ | refine Below.setCell ?_ ?_ _ | refine Below.drew ?_ | refine below_drewN ?_ _) | omega | (simp; done) | (simp; omega)))⟩
  | a :: l, A, n, cap, w, hn, hc, hR, hx => by
    have ih := Lib.hid (fun A n cap w h1 h2 h3 => refRank11 l A n cap w h1 h2 hR.tail h3)
    obtain ⟨g, off, rfl, hg, hcell⟩ := hx (by simp)
    have hba : ∀ b ∈ (a :: l), -1000 ≤ b ∧ b ≤ 1000 := fun b hb => by have := hR.2.1 b hb; unfold mag at this; omega
    have hpu := Lib.hid (fun w hx => refPul11 (some ⟨g, off, none⟩) (a :: l) n cap hn hc hba (by have := hR.1; omega) w hx)
    have hV := Lib.hid (fun n k w => refV10 n k w)
    have hpl := Lib.hid (fun a h w => place11 a h w)
    have HX := Lib.hid hx
    rw [List.length_cons] at hn
    obtain ⟨n', hn'⟩ : ∃ n', l.length = n' := ⟨_, rfl⟩
    rw [hn'] at hn
    have HN := Lib.hid hn'
    have hidx : (n : Int) - 1 = n' := by omega
    have hidxn : n - 1 = n' := by omega
    have hn0 : ¬ (n : Int) = 0 := by omega
    have hn0' : ¬ n = 0 := by omega
    have hn16 : n ≤ 16 := by have := hR.1; rw [List.length_cons] at this; omega
    have hn1 : (1 : Int) ≤ n := by omega
    have hn1' : 1 ≤ n := by omega
    have hni : (n : Int) ≤ 16 := by omega
    have hci : (n : Int) ≤ cap := by omega
    have hn0i : (0 : Int) < n := by omega
    have hn0n : 0 < n := by omega
    have hRR := rank_lt (a :: l) hR.1 hR.2.2
    have hvb := vF_bd ((a :: l).length : Nat) (pul (a :: l))
    have hRb := Lib.hid (show rankL (a :: l) ≤ 100000000000000000 by omega)
    have hRl := rank_lt l hR.tail.1 hR.tail.2.2
    have hP32 := hR.2.2
    have hP0 := pul_nn (a :: l)
    have hma := mag_pul (a :: l) a (by simp)
    have HRK := Lib.hid (show rankL (a :: l) = ah n' (pul (a :: l)) (place a) + rankL l from by rw [← hn']; rfl)
    obtain ⟨R, hRe⟩ : ∃ x, rankL l = x := ⟨_, rfl⟩
    rw [hRe] at HRK hRl ih
    obtain ⟨K, hK⟩ : ∃ K : Nat, pul (a :: l) = K := ⟨(pul (a :: l)).toNat, by omega⟩
    rw [hK] at hpu HRK hP32 hma
    have hpa := Lib.hid (fun w => hpl.out a (hba a (by simp)) w)
    have hplb := place_le a K (by omega)
    obtain ⟨P, hP⟩ : ∃ P, place a = P := ⟨_, rfl⟩
    rw [hP] at hpa HRK hplb
    have cx : w.cell? ⟨g, off, none⟩ = some (.int .i64 a) := by
      have := hcell 0 (by simp)
      rw [Nat.add_zero] at this
      exact this
    have CX := Lib.hid cx
    have hR0 := hRl.1
    have hK32 : (K : Int) ≤ 32 := by omega
    have HMA := Lib.hid hma
    clear hx hR hcell hn' hn hRR hvb hRl hba hRe hK hP hma cx
    go_enter Tryd.func63, Tryd.ntmps63
    go_wp2_with fail
    refine (hpu.out _ HX.out).mono ?_
    rintro e w1 ⟨rfl, ⟨nd, rfl⟩⟩
    have hR2 : Calls Tryd.prog 63 #[.slice (some ⟨g, off + 1, none⟩) n' (cap - 1)] (w.drewN nd) fun e w' => e = .returned (.int .u64 R) ∧ Below (w.drewN nd).heap.size (w.drewN nd) w' := ih.out (some ⟨g, off + 1, none⟩) n' (cap - 1) (w.drewN nd) HN.out (by omega) (fun hp => by
      obtain ⟨g', o', h1, h2, h3⟩ := HX.out.tail hp
      exact ⟨g', o', h1, h2, h3⟩)
    have HR2 := Lib.hid hR2
    clear hR2
    have HB0 := Lib.hid (show Below w.heap.size w (w.drewN nd) from below_drewN (Below.refl _ _) _)
    by_cases hc1 : cap = 1
    · go_wp2_with fail
      refine (ih.out (some ⟨g, off, none⟩) n' 0 _ HN.out (by omega) (fun hp => by have := HN.out; omega)).mono ?_
      rintro e w2 ⟨rfl, hb2⟩
      have HB2 := Lib.hid (HB0.out.trans (hb2.mono HB0.out.size))
      clear hb2 HB0 HR2
      go_wp2_with fail
      go_loopw [4, 5] (fun v4 v5 wr => ∃ m : Nat, m ≤ K + 1 ∧ v5 = .int .i64 m ∧ v4 = .int .u64 (R + ah n' K (min P (2 * m - 1))) ∧ Below w.heap.size w wr) (fun _ v5 _ => K + 1 - (intOf v5).toNat)
      case atStart => exact ⟨0, by omega, rfl, by rw [show 2 * 0 - 1 = 0 from rfl, Nat.min_zero, show ah n' K 0 = 0 from rfl, Int.add_zero], HB2.out⟩
      case round =>
        clear HB2
        obtain ⟨m, hm, rfl, rfl, hb⟩ := hrel
        have HB := Lib.hid hb
        have hmK : (m : Int) ≤ 33 := by omega
        have hmo := ah_mono n' K (min P (2 * m + 1)) P (Nat.min_le_left _ _)
        have hS0 := ah_nn n' K (min P (2 * m - 1))
        have hS00 := ah_mono n' K (min P (2 * m - 1)) P (Nat.min_le_left _ _)
        have cx : wr.cell? ⟨g, off, none⟩ = some (.int .i64 a) := (hb.cell (p := ⟨g, off, none⟩) hg).trans CX.out
        have hvv := (vF_bd n' ((K : Int) - m)).1
        have hRb17 := hRb.out
        have hRK := HRK.out
        have HVV := Lib.hid (fun w => hV.out (n' : Int) ((K : Int) - m) w)
        have e1 := ah_more n' K P (2 * m - 1)
        have e2 := ah_more n' K P (2 * m)
        have em1 : mag (nth (2 * m - 1)) = m := by rw [mag_nth]; omega
        have em2 : mag (nth (2 * m)) = m := by rw [mag_nth]; omega
        rw [em1] at e1
        rw [em2] at e2
        obtain ⟨vv, hvve⟩ : ∃ x, vF n' ((K : Int) - m) = x := ⟨_, rfl⟩
        rw [hvve] at HVV hvv e1 e2
        have HP1 := Lib.hid (fun w => hpl.out (m : Int) (by omega) w)
        obtain ⟨nm, hnm⟩ : ∃ x, -(m : Int) = x := ⟨_, rfl⟩
        have hwn : IntKind.i64.wrap (-(m : Int)) = nm := by rw [← hnm]; exact wr_small (by omega) (by omega)
        have HP2 := Lib.hid (fun w => hpl.out nm (by omega) w)
        rw [(place_n m).1] at HP1
        rw [← hnm, (place_n m).2, hnm] at HP2
        clear hb hvve em1 em2 hnm
        by_cases hle : m ≤ K
        · have hlei : (m : Int) ≤ K := by omega
          by_cases m0 : m = 0
          · have hm0 : ¬ 0 < m := by omega
            have hm0i : ¬ (0 : Int) < m := by omega
            obtain ⟨q1, hq1⟩ : ∃ x, 2 * m - 1 = x := ⟨_, rfl⟩
            have hT2 : ah n' K (min P (2 * (m + 1) - 1)) = ah n' K (min P (2 * m - 1 + 1)) := by rw [show 2 * (m + 1) - 1 = 2 * m - 1 + 1 by omega]
            rw [show 2 * m + 1 = 2 * m - 1 + 1 by omega] at hmo
            rw [hq1] at e1 hT2 hmo HP1 hS0 hS00 ⊢
            have hmn : m = 0 := m0
            have HM0 := Lib.hid hmn
            clear m0 hmn e2 HP2
            by_cases c1 : q1 < P
            · have c1i : (q1 : Int) < P := by omega
              rw [if_pos c1] at e1
              have HT2 := Lib.hid (show R + ah n' K (min P (2 * (m + 1) - 1)) = R + ah n' K (min P q1) + vv by omega)
              have hb2 : R + ah n' K (min P q1) + vv ≤ 100000000000000000 := by omega
              generalize ah n' K (min P q1) = S0 at *
              clear e1 hT2 hmo hq1 hS00
              go_upto_region 8 with fail
              go_quiet ((go_at_call 86; (first | (with_reducible refine (HP1.out _).mono ?_) | (with_reducible refine (hpa.out _).mono ?_)); rintro e w' ⟨rfl, nd, rfl⟩; (first | exact ⟨rfl, _, World.drewN_drewN _ _ _⟩ | exact ⟨rfl, _, Eq.trans (World.drewN_drewN _ _ _) (congrArg (World.drewN _) (Nat.add_assoc _ _ _))⟩)))
              go_wp2_with fail
              refine (HVV.out _).mono ?_
              rintro e w5 ⟨rfl, ⟨nd5, rfl⟩⟩
              go_wp2_with fail
              go_quiet ((go_at_call 86; (first | (with_reducible refine (hpa.out _).mono ?_)); rintro e w' ⟨rfl, nd, rfl⟩; (first | exact ⟨rfl, _, World.drewN_drewN _ _ _⟩ | exact ⟨rfl, _, Eq.trans (World.drewN_drewN _ _ _) (congrArg (World.drewN _) (Nat.add_assoc _ _ _))⟩)))
              go_wp2_with fail
              go_roundw
              case rel => exact ⟨m + 1, by omega, rfl, by rw [HT2.out], by have hbw := HB.out; (repeat' (first | with_reducible (first | exact Below.refl _ _ | assumption | refine Below.alloc ?_ ?_ _ | refine below_grew ?_ ?_ _ | refine Below.setCell ?_ ?_ _ | refine Below.drew ?_ | refine below_drewN ?_ _) | omega | (simp; done) | (simp; omega)))⟩
              case measure => simp [intOf]; omega
            · have c1i : ¬ (q1 : Int) < P := by omega
              rw [if_neg c1] at e1
              have HT2 := Lib.hid (show R + ah n' K (min P (2 * (m + 1) - 1)) = R + ah n' K (min P q1) by omega)
              have hb2 : R + ah n' K (min P q1) ≤ 100000000000000000 := by omega
              generalize ah n' K (min P q1) = S0 at *
              clear e1 hT2 hmo hq1 hS00
              go_upto_region 8 with fail
              go_quiet ((go_at_call 86; (first | (with_reducible refine (HP1.out _).mono ?_) | (with_reducible refine (hpa.out _).mono ?_)); rintro e w' ⟨rfl, nd, rfl⟩; (first | exact ⟨rfl, _, World.drewN_drewN _ _ _⟩ | exact ⟨rfl, _, Eq.trans (World.drewN_drewN _ _ _) (congrArg (World.drewN _) (Nat.add_assoc _ _ _))⟩)))
              go_wp2_with fail
              go_quiet ((go_at_call 86; (first | (with_reducible refine (hpa.out _).mono ?_)); rintro e w' ⟨rfl, nd, rfl⟩; (first | exact ⟨rfl, _, World.drewN_drewN _ _ _⟩ | exact ⟨rfl, _, Eq.trans (World.drewN_drewN _ _ _) (congrArg (World.drewN _) (Nat.add_assoc _ _ _))⟩)))
              go_wp2_with fail
              go_roundw
              case rel => exact ⟨m + 1, by omega, rfl, by rw [HT2.out], by have hbw := HB.out; (repeat' (first | with_reducible (first | exact Below.refl _ _ | assumption | refine Below.alloc ?_ ?_ _ | refine below_grew ?_ ?_ _ | refine Below.setCell ?_ ?_ _ | refine Below.drew ?_ | refine below_drewN ?_ _) | omega | (simp; done) | (simp; omega)))⟩
              case measure => simp [intOf]; omega
          · have hm0 : 0 < m := by omega
            have hm0i : (0 : Int) < m := by omega
            rw [show 2 * m - 1 + 1 = 2 * m by omega] at e1
            obtain ⟨q1, hq1⟩ : ∃ x, 2 * m - 1 = x := ⟨_, rfl⟩
            obtain ⟨q2, hq2⟩ : ∃ x, 2 * m = x := ⟨_, rfl⟩
            have hT2 : ah n' K (min P (2 * (m + 1) - 1)) = ah n' K (min P (2 * m + 1)) := by rw [show 2 * (m + 1) - 1 = 2 * m + 1 by omega]
            rw [hq1, hq2] at e1
            rw [hq2] at e2 hT2 hmo HP2
            rw [hq1] at HP1 hS0 hS00 ⊢
            by_cases c1 : q1 < P
            · have c1i : (q1 : Int) < P := by omega
              rw [if_pos c1] at e1
              by_cases c2 : q2 < P
              · have c2i : (q2 : Int) < P := by omega
                rw [if_pos c2] at e2
                have HT2 := Lib.hid (show R + ah n' K (min P (2 * (m + 1) - 1)) = R + ah n' K (min P q1) + vv + vv by omega)
                have hb2 : R + ah n' K (min P q1) + vv + vv ≤ 100000000000000000 := by omega
                generalize ah n' K (min P q1) = S0 at *
                clear e1 e2 hT2 hmo hq1 hq2 hS00
                go_upto_region 8 with fail
                go_quiet ((go_at_call 86; (first | (with_reducible refine (HP1.out _).mono ?_) | (with_reducible refine (hpa.out _).mono ?_)); rintro e w' ⟨rfl, nd, rfl⟩; (first | exact ⟨rfl, _, World.drewN_drewN _ _ _⟩ | exact ⟨rfl, _, Eq.trans (World.drewN_drewN _ _ _) (congrArg (World.drewN _) (Nat.add_assoc _ _ _))⟩)))
                go_wp2_with fail
                refine (HVV.out _).mono ?_
                rintro e w5 ⟨rfl, ⟨nd5, rfl⟩⟩
                go_wp2_with fail
                go_quiet ((go_at_call 86; (first | (with_reducible refine (HP2.out _).mono ?_) | (with_reducible refine (hpa.out _).mono ?_)); rintro e w' ⟨rfl, nd, rfl⟩; (first | exact ⟨rfl, _, World.drewN_drewN _ _ _⟩ | exact ⟨rfl, _, Eq.trans (World.drewN_drewN _ _ _) (congrArg (World.drewN _) (Nat.add_assoc _ _ _))⟩)))
                go_wp2_with fail
                refine (HVV.out _).mono ?_
                rintro e w6 ⟨rfl, ⟨nd6, rfl⟩⟩
                go_wp2_with fail
                go_roundw
                case rel => exact ⟨m + 1, by omega, rfl, by rw [HT2.out], by have hbw := HB.out; (repeat' (first | with_reducible (first | exact Below.refl _ _ | assumption | refine Below.alloc ?_ ?_ _ | refine below_grew ?_ ?_ _ | refine Below.setCell ?_ ?_ _ | refine Below.drew ?_ | refine below_drewN ?_ _) | omega | (simp; done) | (simp; omega)))⟩
                case measure => simp [intOf]; omega
              · have c2i : ¬ (q2 : Int) < P := by omega
                rw [if_neg c2] at e2
                have HT2 := Lib.hid (show R + ah n' K (min P (2 * (m + 1) - 1)) = R + ah n' K (min P q1) + vv by omega)
                have hb2 : R + ah n' K (min P q1) + vv ≤ 100000000000000000 := by omega
                generalize ah n' K (min P q1) = S0 at *
                clear e1 e2 hT2 hmo hq1 hq2 hS00
                go_upto_region 8 with fail
                go_quiet ((go_at_call 86; (first | (with_reducible refine (HP1.out _).mono ?_) | (with_reducible refine (hpa.out _).mono ?_)); rintro e w' ⟨rfl, nd, rfl⟩; (first | exact ⟨rfl, _, World.drewN_drewN _ _ _⟩ | exact ⟨rfl, _, Eq.trans (World.drewN_drewN _ _ _) (congrArg (World.drewN _) (Nat.add_assoc _ _ _))⟩)))
                go_wp2_with fail
                refine (HVV.out _).mono ?_
                rintro e w5 ⟨rfl, ⟨nd5, rfl⟩⟩
                go_wp2_with fail
                go_quiet ((go_at_call 86; (first | (with_reducible refine (HP2.out _).mono ?_) | (with_reducible refine (hpa.out _).mono ?_)); rintro e w' ⟨rfl, nd, rfl⟩; (first | exact ⟨rfl, _, World.drewN_drewN _ _ _⟩ | exact ⟨rfl, _, Eq.trans (World.drewN_drewN _ _ _) (congrArg (World.drewN _) (Nat.add_assoc _ _ _))⟩)))
                go_wp2_with fail
                go_roundw
                case rel => exact ⟨m + 1, by omega, rfl, by rw [HT2.out], by have hbw := HB.out; (repeat' (first | with_reducible (first | exact Below.refl _ _ | assumption | refine Below.alloc ?_ ?_ _ | refine below_grew ?_ ?_ _ | refine Below.setCell ?_ ?_ _ | refine Below.drew ?_ | refine below_drewN ?_ _) | omega | (simp; done) | (simp; omega)))⟩
                case measure => simp [intOf]; omega
            · have c1i : ¬ (q1 : Int) < P := by omega
              have c2i : ¬ (q2 : Int) < P := by omega
              rw [if_neg c1] at e1
              rw [if_neg (by omega)] at e2
              have HT2 := Lib.hid (show R + ah n' K (min P (2 * (m + 1) - 1)) = R + ah n' K (min P q1) by omega)
              have hb2 : R + ah n' K (min P q1) ≤ 100000000000000000 := by omega
              generalize ah n' K (min P q1) = S0 at *
              clear e1 e2 hT2 hmo hq1 hq2 hS00
              go_upto_region 8 with fail
              go_quiet ((go_at_call 86; (first | (with_reducible refine (HP1.out _).mono ?_) | (with_reducible refine (hpa.out _).mono ?_)); rintro e w' ⟨rfl, nd, rfl⟩; (first | exact ⟨rfl, _, World.drewN_drewN _ _ _⟩ | exact ⟨rfl, _, Eq.trans (World.drewN_drewN _ _ _) (congrArg (World.drewN _) (Nat.add_assoc _ _ _))⟩)))
              go_wp2_with fail
              go_quiet ((go_at_call 86; (first | (with_reducible refine (HP2.out _).mono ?_) | (with_reducible refine (hpa.out _).mono ?_)); rintro e w' ⟨rfl, nd, rfl⟩; (first | exact ⟨rfl, _, World.drewN_drewN _ _ _⟩ | exact ⟨rfl, _, Eq.trans (World.drewN_drewN _ _ _) (congrArg (World.drewN _) (Nat.add_assoc _ _ _))⟩)))
              go_wp2_with fail
              go_roundw
              case rel => exact ⟨m + 1, by omega, rfl, by rw [HT2.out], by have hbw := HB.out; (repeat' (first | with_reducible (first | exact Below.refl _ _ | assumption | refine Below.alloc ?_ ?_ _ | refine below_grew ?_ ?_ _ | refine Below.setCell ?_ ?_ _ | refine Below.drew ?_ | refine below_drewN ?_ _) | omega | (simp; done) | (simp; omega)))⟩
              case measure => simp [intOf]; omega
        · have hle' : ¬ (m : Int) ≤ K := by omega
          have HE := Lib.hid (show R + ah n' K (min P (2 * m - 1)) = rankL (a :: l) from by rw [Nat.min_eq_left (by omega)]; omega)
          generalize ah n' K (min P (2 * m - 1)) = S0 at *
          clear e1 e2 hmo HP1 HP2
          go_wp2_with fail
          go_ret
          exact ⟨ret_int (HE.out.trans HRK.out), HB.out⟩
    · have hc2 : ¬ (cap : Int) = 1 := by omega
      go_wp2_with fail
      refine HR2.out.mono ?_
      rintro e w2 ⟨rfl, hb2⟩
      have HB2 := Lib.hid (HB0.out.trans (hb2.mono HB0.out.size))
      clear hb2 HB0 HR2
      go_wp2_with fail
      go_loopw [4, 5] (fun v4 v5 wr => ∃ m : Nat, m ≤ K + 1 ∧ v5 = .int .i64 m ∧ v4 = .int .u64 (R + ah n' K (min P (2 * m - 1))) ∧ Below w.heap.size w wr) (fun _ v5 _ => K + 1 - (intOf v5).toNat)
      case atStart => exact ⟨0, by omega, rfl, by rw [show 2 * 0 - 1 = 0 from rfl, Nat.min_zero, show ah n' K 0 = 0 from rfl, Int.add_zero], HB2.out⟩
      case round =>
        clear HB2
        obtain ⟨m, hm, rfl, rfl, hb⟩ := hrel
        have HB := Lib.hid hb
        have hmK : (m : Int) ≤ 33 := by omega
        have hmo := ah_mono n' K (min P (2 * m + 1)) P (Nat.min_le_left _ _)
        have hS0 := ah_nn n' K (min P (2 * m - 1))
        have hS00 := ah_mono n' K (min P (2 * m - 1)) P (Nat.min_le_left _ _)
        have cx : wr.cell? ⟨g, off, none⟩ = some (.int .i64 a) := (hb.cell (p := ⟨g, off, none⟩) hg).trans CX.out
        have hvv := (vF_bd n' ((K : Int) - m)).1
        have hRb17 := hRb.out
        have hRK := HRK.out
        have HVV := Lib.hid (fun w => hV.out (n' : Int) ((K : Int) - m) w)
        have e1 := ah_more n' K P (2 * m - 1)
        have e2 := ah_more n' K P (2 * m)
        have em1 : mag (nth (2 * m - 1)) = m := by rw [mag_nth]; omega
        have em2 : mag (nth (2 * m)) = m := by rw [mag_nth]; omega
        rw [em1] at e1
        rw [em2] at e2
        obtain ⟨vv, hvve⟩ : ∃ x, vF n' ((K : Int) - m) = x := ⟨_, rfl⟩
        rw [hvve] at HVV hvv e1 e2
        have HP1 := Lib.hid (fun w => hpl.out (m : Int) (by omega) w)
        obtain ⟨nm, hnm⟩ : ∃ x, -(m : Int) = x := ⟨_, rfl⟩
        have hwn : IntKind.i64.wrap (-(m : Int)) = nm := by rw [← hnm]; exact wr_small (by omega) (by omega)
        have HP2 := Lib.hid (fun w => hpl.out nm (by omega) w)
        rw [(place_n m).1] at HP1
        rw [← hnm, (place_n m).2, hnm] at HP2
        clear hb hvve em1 em2 hnm
        by_cases hle : m ≤ K
        · have hlei : (m : Int) ≤ K := by omega
          by_cases m0 : m = 0
          · have hm0 : ¬ 0 < m := by omega
            have hm0i : ¬ (0 : Int) < m := by omega
            obtain ⟨q1, hq1⟩ : ∃ x, 2 * m - 1 = x := ⟨_, rfl⟩
            have hT2 : ah n' K (min P (2 * (m + 1) - 1)) = ah n' K (min P (2 * m - 1 + 1)) := by rw [show 2 * (m + 1) - 1 = 2 * m - 1 + 1 by omega]
            rw [show 2 * m + 1 = 2 * m - 1 + 1 by omega] at hmo
            rw [hq1] at e1 hT2 hmo HP1 hS0 hS00 ⊢
            have hmn : m = 0 := m0
            have HM0 := Lib.hid hmn
            clear m0 hmn e2 HP2
            by_cases c1 : q1 < P
            · have c1i : (q1 : Int) < P := by omega
              rw [if_pos c1] at e1
              have HT2 := Lib.hid (show R + ah n' K (min P (2 * (m + 1) - 1)) = R + ah n' K (min P q1) + vv by omega)
              have hb2 : R + ah n' K (min P q1) + vv ≤ 100000000000000000 := by omega
              generalize ah n' K (min P q1) = S0 at *
              clear e1 hT2 hmo hq1 hS00
              go_upto_region 8 with fail
              go_quiet ((go_at_call 86; (first | (with_reducible refine (HP1.out _).mono ?_) | (with_reducible refine (hpa.out _).mono ?_)); rintro e w' ⟨rfl, nd, rfl⟩; (first | exact ⟨rfl, _, World.drewN_drewN _ _ _⟩ | exact ⟨rfl, _, Eq.trans (World.drewN_drewN _ _ _) (congrArg (World.drewN _) (Nat.add_assoc _ _ _))⟩)))
              go_wp2_with fail
              refine (HVV.out _).mono ?_
              rintro e w5 ⟨rfl, ⟨nd5, rfl⟩⟩
              go_wp2_with fail
              go_quiet ((go_at_call 86; (first | (with_reducible refine (hpa.out _).mono ?_)); rintro e w' ⟨rfl, nd, rfl⟩; (first | exact ⟨rfl, _, World.drewN_drewN _ _ _⟩ | exact ⟨rfl, _, Eq.trans (World.drewN_drewN _ _ _) (congrArg (World.drewN _) (Nat.add_assoc _ _ _))⟩)))
              go_wp2_with fail
              go_roundw
              case rel => exact ⟨m + 1, by omega, rfl, by rw [HT2.out], by have hbw := HB.out; (repeat' (first | with_reducible (first | exact Below.refl _ _ | assumption | refine Below.alloc ?_ ?_ _ | refine below_grew ?_ ?_ _ | refine Below.setCell ?_ ?_ _ | refine Below.drew ?_ | refine below_drewN ?_ _) | omega | (simp; done) | (simp; omega)))⟩
              case measure => simp [intOf]; omega
            · have c1i : ¬ (q1 : Int) < P := by omega
              rw [if_neg c1] at e1
              have HT2 := Lib.hid (show R + ah n' K (min P (2 * (m + 1) - 1)) = R + ah n' K (min P q1) by omega)
              have hb2 : R + ah n' K (min P q1) ≤ 100000000000000000 := by omega
              generalize ah n' K (min P q1) = S0 at *
              clear e1 hT2 hmo hq1 hS00
              go_upto_region 8 with fail
              go_quiet ((go_at_call 86; (first | (with_reducible refine (HP1.out _).mono ?_) | (with_reducible refine (hpa.out _).mono ?_)); rintro e w' ⟨rfl, nd, rfl⟩; (first | exact ⟨rfl, _, World.drewN_drewN _ _ _⟩ | exact ⟨rfl, _, Eq.trans (World.drewN_drewN _ _ _) (congrArg (World.drewN _) (Nat.add_assoc _ _ _))⟩)))
              go_wp2_with fail
              go_quiet ((go_at_call 86; (first | (with_reducible refine (hpa.out _).mono ?_)); rintro e w' ⟨rfl, nd, rfl⟩; (first | exact ⟨rfl, _, World.drewN_drewN _ _ _⟩ | exact ⟨rfl, _, Eq.trans (World.drewN_drewN _ _ _) (congrArg (World.drewN _) (Nat.add_assoc _ _ _))⟩)))
              go_wp2_with fail
              go_roundw
              case rel => exact ⟨m + 1, by omega, rfl, by rw [HT2.out], by have hbw := HB.out; (repeat' (first | with_reducible (first | exact Below.refl _ _ | assumption | refine Below.alloc ?_ ?_ _ | refine below_grew ?_ ?_ _ | refine Below.setCell ?_ ?_ _ | refine Below.drew ?_ | refine below_drewN ?_ _) | omega | (simp; done) | (simp; omega)))⟩
              case measure => simp [intOf]; omega
          · have hm0 : 0 < m := by omega
            have hm0i : (0 : Int) < m := by omega
            rw [show 2 * m - 1 + 1 = 2 * m by omega] at e1
            obtain ⟨q1, hq1⟩ : ∃ x, 2 * m - 1 = x := ⟨_, rfl⟩
            obtain ⟨q2, hq2⟩ : ∃ x, 2 * m = x := ⟨_, rfl⟩
            have hT2 : ah n' K (min P (2 * (m + 1) - 1)) = ah n' K (min P (2 * m + 1)) := by rw [show 2 * (m + 1) - 1 = 2 * m + 1 by omega]
            rw [hq1, hq2] at e1
            rw [hq2] at e2 hT2 hmo HP2
            rw [hq1] at HP1 hS0 hS00 ⊢
            by_cases c1 : q1 < P
            · have c1i : (q1 : Int) < P := by omega
              rw [if_pos c1] at e1
              by_cases c2 : q2 < P
              · have c2i : (q2 : Int) < P := by omega
                rw [if_pos c2] at e2
                have HT2 := Lib.hid (show R + ah n' K (min P (2 * (m + 1) - 1)) = R + ah n' K (min P q1) + vv + vv by omega)
                have hb2 : R + ah n' K (min P q1) + vv + vv ≤ 100000000000000000 := by omega
                generalize ah n' K (min P q1) = S0 at *
                clear e1 e2 hT2 hmo hq1 hq2 hS00
                go_upto_region 8 with fail
                go_quiet ((go_at_call 86; (first | (with_reducible refine (HP1.out _).mono ?_) | (with_reducible refine (hpa.out _).mono ?_)); rintro e w' ⟨rfl, nd, rfl⟩; (first | exact ⟨rfl, _, World.drewN_drewN _ _ _⟩ | exact ⟨rfl, _, Eq.trans (World.drewN_drewN _ _ _) (congrArg (World.drewN _) (Nat.add_assoc _ _ _))⟩)))
                go_wp2_with fail
                refine (HVV.out _).mono ?_
                rintro e w5 ⟨rfl, ⟨nd5, rfl⟩⟩
                go_wp2_with fail
                go_quiet ((go_at_call 86; (first | (with_reducible refine (HP2.out _).mono ?_) | (with_reducible refine (hpa.out _).mono ?_)); rintro e w' ⟨rfl, nd, rfl⟩; (first | exact ⟨rfl, _, World.drewN_drewN _ _ _⟩ | exact ⟨rfl, _, Eq.trans (World.drewN_drewN _ _ _) (congrArg (World.drewN _) (Nat.add_assoc _ _ _))⟩)))
                go_wp2_with fail
                refine (HVV.out _).mono ?_
                rintro e w6 ⟨rfl, ⟨nd6, rfl⟩⟩
                go_wp2_with fail
                go_roundw
                case rel => exact ⟨m + 1, by omega, rfl, by rw [HT2.out], by have hbw := HB.out; (repeat' (first | with_reducible (first | exact Below.refl _ _ | assumption | refine Below.alloc ?_ ?_ _ | refine below_grew ?_ ?_ _ | refine Below.setCell ?_ ?_ _ | refine Below.drew ?_ | refine below_drewN ?_ _) | omega | (simp; done) | (simp; omega)))⟩
                case measure => simp [intOf]; omega
              · have c2i : ¬ (q2 : Int) < P := by omega
                rw [if_neg c2] at e2
                have HT2 := Lib.hid (show R + ah n' K (min P (2 * (m + 1) - 1)) = R + ah n' K (min P q1) + vv by omega)
                have hb2 : R + ah n' K (min P q1) + vv ≤ 100000000000000000 := by omega
                generalize ah n' K (min P q1) = S0 at *
                clear e1 e2 hT2 hmo hq1 hq2 hS00
                go_upto_region 8 with fail
                go_quiet ((go_at_call 86; (first | (with_reducible refine (HP1.out _).mono ?_) | (with_reducible refine (hpa.out _).mono ?_)); rintro e w' ⟨rfl, nd, rfl⟩; (first | exact ⟨rfl, _, World.drewN_drewN _ _ _⟩ | exact ⟨rfl, _, Eq.trans (World.drewN_drewN _ _ _) (congrArg (World.drewN _) (Nat.add_assoc _ _ _))⟩)))
                go_wp2_with fail
                refine (HVV.out _).mono ?_
                rintro e w5 ⟨rfl, ⟨nd5, rfl⟩⟩
                go_wp2_with fail
                go_quiet ((go_at_call 86; (first | (with_reducible refine (HP2.out _).mono ?_) | (with_reducible refine (hpa.out _).mono ?_)); rintro e w' ⟨rfl, nd, rfl⟩; (first | exact ⟨rfl, _, World.drewN_drewN _ _ _⟩ | exact ⟨rfl, _, Eq.trans (World.drewN_drewN _ _ _) (congrArg (World.drewN _) (Nat.add_assoc _ _ _))⟩)))
                go_wp2_with fail
                go_roundw
                case rel => exact ⟨m + 1, by omega, rfl, by rw [HT2.out], by have hbw := HB.out; (repeat' (first | with_reducible (first | exact Below.refl _ _ | assumption | refine Below.alloc ?_ ?_ _ | refine below_grew ?_ ?_ _ | refine Below.setCell ?_ ?_ _ | refine Below.drew ?_ | refine below_drewN ?_ _) | omega | (simp; done) | (simp; omega)))⟩
                case measure => simp [intOf]; omega
            · have c1i : ¬ (q1 : Int) < P := by omega
              have c2i : ¬ (q2 : Int) < P := by omega
              rw [if_neg c1] at e1
              rw [if_neg (by omega)] at e2
              have HT2 := Lib.hid (show R + ah n' K (min P (2 * (m + 1) - 1)) = R + ah n' K (min P q1) by omega)
              have hb2 : R + ah n' K (min P q1) ≤ 100000000000000000 := by omega
              generalize ah n' K (min P q1) = S0 at *
              clear e1 e2 hT2 hmo hq1 hq2 hS00
              go_upto_region 8 with fail
              go_quiet ((go_at_call 86; (first | (with_reducible refine (HP1.out _).mono ?_) | (with_reducible refine (hpa.out _).mono ?_)); rintro e w' ⟨rfl, nd, rfl⟩; (first | exact ⟨rfl, _, World.drewN_drewN _ _ _⟩ | exact ⟨rfl, _, Eq.trans (World.drewN_drewN _ _ _) (congrArg (World.drewN _) (Nat.add_assoc _ _ _))⟩)))
              go_wp2_with fail
              go_quiet ((go_at_call 86; (first | (with_reducible refine (HP2.out _).mono ?_) | (with_reducible refine (hpa.out _).mono ?_)); rintro e w' ⟨rfl, nd, rfl⟩; (first | exact ⟨rfl, _, World.drewN_drewN _ _ _⟩ | exact ⟨rfl, _, Eq.trans (World.drewN_drewN _ _ _) (congrArg (World.drewN _) (Nat.add_assoc _ _ _))⟩)))
              go_wp2_with fail
              go_roundw
              case rel => exact ⟨m + 1, by omega, rfl, by rw [HT2.out], by have hbw := HB.out; (repeat' (first | with_reducible (first | exact Below.refl _ _ | assumption | refine Below.alloc ?_ ?_ _ | refine below_grew ?_ ?_ _ | refine Below.setCell ?_ ?_ _ | refine Below.drew ?_ | refine below_drewN ?_ _) | omega | (simp; done) | (simp; omega)))⟩
              case measure => simp [intOf]; omega
        · have hle' : ¬ (m : Int) ≤ K := by omega
          have HE := Lib.hid (show R + ah n' K (min P (2 * m - 1)) = rankL (a :: l) from by rw [Nat.min_eq_left (by omega)]; omega)
          generalize ah n' K (min P (2 * m - 1)) = S0 at *
          clear e1 e2 hmo HP1 HP2
          go_wp2_with fail
          go_ret
          exact ⟨ret_int (HE.out.trans HRK.out), HB.out⟩
set_option maxHeartbeats 2000000 in
set_option maxRecDepth 100000 in
theorem refRank12 (A : Option Addr) (l : List Int) (n cap : Nat) (hln : l.length = n) (hc : n ≤ cap) (hn : n ≤ 1000) (w : World) (hx : IntsAt A l w) :
    Calls Tryd.prog 33 #[.slice A n cap] w fun e w' => e = .returned (.tuple #[.int .u64 (if RightV l then rankL l else 0), .bool (decide (RightV l))]) ∧ Below w.heap.size w w' := by
  have hr := Lib.hid (refRight11 A l n cap hln hc hn w hx)
  have HX := Lib.hid hx
  by_cases hR : RightV l
  · have hk := Lib.hid (fun w hx => refRank11 l A n cap w hln hc hR hx)
    have HR := Lib.hid hR
    rw [if_pos hR, decide_eq_true hR]
    rw [decide_eq_true hR] at hr
    generalize rankL l = R at *
    clear hx hR hln
    go_enter Tryd.func33, Tryd.ntmps33
    go_wp2_with fail
    refine hr.out.mono ?_
    rintro e w1 ⟨rfl, ⟨nd, rfl⟩⟩
    have hb0 : Below w.heap.size w (w.drewN nd) := below_drewN (Below.refl _ _) _
    go_wp2_with fail
    refine (hk.out _ (HX.out.keep hb0)).mono ?_
    rintro e w2 ⟨rfl, hb2⟩
    have HB := Lib.hid (hb0.trans (hb2.mono hb0.size))
    clear hb0 hb2
    go_wp2_with fail
    refine bodyPost_ret (v := _) (by simp [results, Tryd.results33, go_sem]; rfl) rfl ⟨?_, ?_⟩
    · rfl
    · exact HB.out
  · rw [if_neg hR, decide_eq_false hR]
    rw [decide_eq_false hR] at hr
    clear hx hR hln
    go_enter Tryd.func33, Tryd.ntmps33
    go_wp2_with fail
    refine hr.out.mono ?_
    rintro e w1 ⟨rfl, ⟨nd, rfl⟩⟩
    have hb0 : Below w.heap.size w (w.drewN nd) := below_drewN (Below.refl _ _) _
    have HB := Lib.hid hb0
    clear hb0
    go_wp2_with fail
    refine bodyPost_ret (v := _) (by simp [results, Tryd.results33, go_sem]; rfl) rfl ⟨?_, ?_⟩
    · rfl
    · exact HB.out
end Go.Proofs.YtbcdnbbpkikppaaDoor
end

section
namespace Go.Proofs.YtbcdnbbpkikppaaDoor
open Go.RowKit Go.BigFrame Go.Vec Go.Cost
set_option linter.unusedSimpArgs false
set_option linter.unusedVariables false
def exB : Nat → Int := fun i => if i = 0 then 8 else 0
def exS : RS := { taken := 3, raws := 0, rng := 16777216, val := 524288 }
def exS1 : RS := { taken := 3, raws := 0, rng := 524288, val := 0 }
theorem ex_start (c : RC) (hn : c.n = 4) (hb : c.b = exB) : startS c = exS := by
  simp [startS, valTo, RC.byte, hn, hb, exB, exS]
theorem ex_get : getF exS 32 = 1 := by decide
theorem ex_one (c : RC) : oneS c exS 32 = exS1 := by
  unfold oneS
  rw [ex_get]
  rfl
theorem ex_ok : RsOk exS := ⟨by decide, by decide, by decide, by decide⟩
theorem ex_left (c : RC) (hn : c.n = 4) : exS1.left c = 8 := by
  unfold RS.left
  rw [hn]
  rfl
def silF : Nat → Int := headF zeroF 1
theorem sil_at (i : Nat) (hi : i < 94) : silF i = updI zeroF 0 1 i := by
  unfold silF headF updI zeroF
  by_cases h0 : i = 0
  · subst h0; rfl
  · by_cases h1 : i = 1
    · subst h1; rfl
    · by_cases h2 : i = 2
      · subst h2; rfl
      · simp [h0, h1, h2]
theorem prev10 : (ag i64t 10 fun _ => 0) = #[.int .i64 0, .int .i64 0, .int .i64 0, .int .i64 0, .int .i64 0, .int .i64 0, .int .i64 0, .int .i64 0, .int .i64 0, .int .i64 0] := rfl
set_option maxHeartbeats 4000000 in
set_option maxRecDepth 100000 in
theorem awake16 (w : World) : Calls Tryd.prog 11 #[] w fun e w' => e = .returned (.bool true) ∧ Below w.heap.size w w' := by
  have hq := Lib.hid (fun w => frameQuick w)
  have hp := Lib.hid (fun w => framePlain w)
  have hnw := Lib.hid (fun A n cap b hn w h hA => rdNew A n cap b hn w h hA)
  have hrs := Lib.hid (fun c tt tx h16 hs hleft hk hk1 hr1 hn w h => readSil c exS ex_ok tt tx 0 1 (by unfold RightP; omega) (fun _ => 0) h16 hs exS1 (ex_one c) hleft hk hk1 hr1 hn w h)
  rw [prev10, ex_get] at hrs
  go_enter Tryd.func11, Tryd.ntmps11
  go_wp2_with fail
  refine (hq.out _).mono ?_
  rintro e w1 ⟨tb, hb, sh, rfl, htb, hT, hS, hb1⟩
  have HB1 := Lib.hid hb1
  clear hT hS hb1 htb hq
  go_wp2_with fail
  refine (hp.out _).mono ?_
  rintro e w2 ⟨b, m, rfl, hbs, hms, hB, hb2⟩
  have HB2 := Lib.hid (HB1.out.trans (hb2.mono HB1.out.size))
  clear hbs hms hB hb2 hp HB1
  go_wp2_with fail
  have hs2 := HB2.out.size
  refine (hnw.out (some ⟨w2.heap.size, 0, none⟩) 4 4 exB (by omega) _ (fun _ => ⟨w2.heap.size, 0, rfl, by simp, fun i hi => ?_⟩) (fun h => by cases h)).mono ?_
  · have hc := (block_facts (alloc_at w2 (.cells #[.int .u8 8, .int .u8 0, .int .u8 0, .int .u8 0] 5 (0, 0)))).1 (0 + i)
    rw [hc]
    rcases (show i = 0 ∨ i = 1 ∨ i = 2 ∨ i = 3 by omega) with h | h | h | h <;> subst h <;> exact ⟨rfl, by decide, by decide⟩
  rintro e w3 ⟨c, rfl, hcn, hcb, hcr, hcg, hR, hb3⟩
  rw [ex_start c hcn hcb] at hR
  have HR := Lib.hid hR
  have hcr2 : w.heap.size ≤ c.rb := by simp at hcr; omega
  have HB3 := Lib.hid (HB2.out.trans (Below.mono (B := w2.heap.size) ((Below.alloc (Below.refl _ _) (Nat.le_refl _) _).trans (hb3.mono (by simp))) hs2))
  have HLF := Lib.hid (ex_left c hcn)
  have HCN := Lib.hid hcn
  clear hR hb3 hcn hcb hcr hcg HB2 hs2 hnw
  go_wp2_with fail
  refine (hrs.out c _ _ (by omega) (by decide) (by rw [HLF.out]; decide) (by decide) (by decide) (by decide) (by have := HCN.out; omega) w3 HR.out).mono ?_
  rintro e w4 ⟨rfl, hR4, hc4⟩
  have HB4 := Lib.hid (HB3.out.trans (hc4.toBelow HB3.out.size (fun k hk => by simp only [List.mem_singleton] at hk; omega)))
  clear hR4 hc4 hrs HB3 HR HLF HCN hcr2
  go_upto_region 5 with (refine wpList_store_mid rfl TFr _ _ rfl w4.heap.size 0 (av 94 (frC silF)) rfl rfl ?hth ?hin3 ?hon ?_; (case hth => exact there_row (alloc_at _ _) _ (by rw [zeroFr_eq, av_size, av_size]; exact Nat.le_refl _)); (case hin3 => rw [av_size]; exact infoFr); (case hon => exact fr_one silF))
  have q1 := cells_all (alloc_at w4 (.cells Tryd.zeroCells35 TFr (0, 0))) (N := 94) (by rw [zeroFr_eq, av_size]) (cs := av 94 (frC silF)) (av_size _ _)
  have q2 : Below w4.heap.size w4 ((w4.alloc (.cells Tryd.zeroCells35 TFr (0, 0))).setCells w4.heap.size 0 (av 94 (frC silF)).toList) := (only_setCells (w4.alloc (.cells Tryd.zeroCells35 TFr (0, 0))) w4.heap.size 0 (av 94 (frC silF)).toList).below (by (repeat' (first | with_reducible (first | exact Below.refl _ _ | assumption | refine Below.alloc ?_ ?_ _ | refine below_grew ?_ ?_ _ | refine Below.setCell ?_ ?_ _ | refine Below.drew ?_ | refine below_drewN ?_ _) | omega | (simp; done) | (simp; omega)))) (Nat.le_refl _)
  refine cut_world (fun W => Bv w4.heap.size TFr 94 (frC silF) W ∧ Below w.heap.size w W) ⟨q1, HB4.out.trans (Below.mono (B := w4.heap.size) q2 HB4.out.size)⟩ ?_
  clear q1 q2 HB4
  generalize w4.heap.size = fb at *
  rintro V ⟨hf, hV⟩
  have HF := Lib.hid hf
  have HV := Lib.hid hV
  have heq := fun w => eqFr_yes silF (updI zeroF 0 1) sil_at w
  clear hf hV
  go_wp2_with (first | ((with_reducible refine gate_ld TFr _ rfl ?_); refine load_row_g rfl TFr _ rfl fb rfl _ (av 94 (frC silF)) (0, 0) _ HF.out Tryd.underlying35 rfl (by rw [av_size]; exact infoFr) ?_) | (refine build_to_g rfl TFr _ rfl (av 94 (frC (updI zeroF 0 1))) (by kernel_rfl) ?_))
  go_ret
  exact ⟨rfl, HV.out⟩
end Go.Proofs.YtbcdnbbpkikppaaDoor
end

section
namespace Go.Proofs.YtbcdnbbpkikppaaDoor
open Go.RowKit Go.BigFrame Go.Vec Go.Cost
set_option linter.unusedSimpArgs false
set_option linter.unusedVariables false
abbrev T5 := 29
theorem own_ofs {W : World} {B : Nat} {o0 o1 o2 o3 o4 : Int} (h : W.heap[B]? = some (.cells #[.int .i64 o0, .int .i64 o1, .int .i64 o2, .int .i64 o3, .int .i64 o4] T5 (0, 0))) : W.cell? ⟨B, 0, none⟩ = some (.int .i64 o0) ∧ W.cell? ⟨B, 1, none⟩ = some (.int .i64 o1) ∧ W.cell? ⟨B, 2, none⟩ = some (.int .i64 o2) ∧ W.cell? ⟨B, 3, none⟩ = some (.int .i64 o3) ∧ W.cell? ⟨B, 4, none⟩ = some (.int .i64 o4) := by
  obtain ⟨f, -, -⟩ := block_facts h
  exact ⟨f 0, f 1, f 2, f 3, f 4⟩
abbrev TTl := 50
theorem book_ne {b m : Nat} {w : World} (hB : Book b m w) {k : Nat} {cs : Array Value} {T : TypeId} {f : Nat × Nat} (h : w.heap[k]? = some (.cells cs T f)) : m ≠ k := fun e => by
  obtain ⟨es, clk, h1, _⟩ := hB.map
  rw [e, h] at h1
  cases h1
theorem bk_cells {b m : Nat} {w W : World} (hB : Book b m w) (hI : BkInv m w W) {k : Nat} {cs : Array Value} {T : TypeId} {f : Nat × Nat} (h : w.heap[k]? = some (.cells cs T f)) : W.heap[k]? = some (.cells cs T f) :=
  (hI.block k (Array.getElem?_eq_some_iff.1 h).1 (book_ne hB h)).trans h
theorem bk_tab {b m t : Nat} {w W : World} (hB : Book b m w) (hI : BkInv m w W) (h : TableOK t w) : TableOK t W := by
  obtain ⟨cs, h1, h2⟩ := h
  exact ⟨cs, bk_cells hB hI h1, h2⟩
theorem bk_share {b m hb sh : Nat} {w W : World} (hB : Book b m w) (hI : BkInv m w W) (h : ShareAt hb sh w) : ShareAt hb sh W := by
  obtain ⟨h1, cs, h2, h3⟩ := h
  exact ⟨bk_cells hB hI h1, cs, bk_cells hB hI h2, h3⟩
theorem ShareAt.keep' {hb sh : Nat} {w W : World} (h : ShareAt hb sh w) (hI : Below w.heap.size w W) : ShareAt hb sh W := by
  obtain ⟨h1, cs, h2, h3⟩ := h
  exact ⟨(hI.block _ (Array.getElem?_eq_some_iff.1 h1).1).trans h1, cs, (hI.block _ (Array.getElem?_eq_some_iff.1 h2).1).trans h2, h3⟩
theorem bk_ints {m : Nat} {A : Option Addr} {l : List Int} {w0 w W : World} (hI : BkInv m w W) (h : IntsAt A l w) (hm : w0.heap.size ≤ m) (h0 : ∀ g off, A = some ⟨g, off, none⟩ → 0 < l.length → g < w0.heap.size) : IntsAt A l W := fun hn => by
  obtain ⟨g, off, h1, h2, h3⟩ := h hn
  exact ⟨g, off, h1, Nat.lt_of_lt_of_le h2 hI.size, fun i hi => (World.cell?_of_block (w := w) (hI.block g h2 (by have := h0 g off h1 hn; omega))).trans (h3 i hi)⟩
theorem ints_lt {A : Option Addr} {l : List Int} {w : World} (h : IntsAt A l w) (hn : 0 < l.length) : ∀ g off, A = some ⟨g, off, none⟩ → g < w.heap.size := fun g off e => by
  obtain ⟨g', off', h1, h2, _⟩ := h hn
  rw [e] at h1
  simp only [Option.some.injEq, Addr.mk.injEq, and_true] at h1
  omega
section
variable (f b t h : Nat) (w : World)
theorem meth_plV : (method (f + 1) TPl (.agg #[.pointer (some ⟨b, 0, none⟩)]) "V").run Tryd.prog w = .ok (149, .pointer (some ⟨b, 0, none⟩)) w := by kernel_rfl
theorem meth_plA : (method (f + 1) TPl (.agg #[.pointer (some ⟨b, 0, none⟩)]) "Alloc").run Tryd.prog w = .ok (151, .agg #[.pointer (some ⟨b, 0, none⟩)]) w := by kernel_rfl
theorem meth_plI : (method (f + 1) TPl (.agg #[.pointer (some ⟨b, 0, none⟩)]) "Into").run Tryd.prog w = .ok (152, .agg #[.pointer (some ⟨b, 0, none⟩)]) w := by kernel_rfl
theorem nil_plI : (nilAhead (f + 1) TPl (.agg #[.pointer (some ⟨b, 0, none⟩)]) "Into").run Tryd.prog w = .ok (some false) w := by kernel_rfl
theorem meth_qkV : (method (f + 1) TQk (.agg #[.pointer (some ⟨t, 0, none⟩), .pointer (some ⟨h, 0, none⟩)]) "V").run Tryd.prog w = .ok (80, .pointer (some ⟨t, 0, none⟩)) w := by kernel_rfl
theorem meth_qkA : (method (f + 1) TQk (.agg #[.pointer (some ⟨t, 0, none⟩), .pointer (some ⟨h, 0, none⟩)]) "Alloc").run Tryd.prog w = .ok (171, .pointer (some ⟨h, 0, none⟩)) w := by kernel_rfl
theorem meth_qkI : (method (f + 1) TQk (.agg #[.pointer (some ⟨t, 0, none⟩), .pointer (some ⟨h, 0, none⟩)]) "Into").run Tryd.prog w = .ok (168, .pointer (some ⟨t, 0, none⟩)) w := by kernel_rfl
theorem nil_qkI : (nilAhead (f + 1) TQk (.agg #[.pointer (some ⟨t, 0, none⟩), .pointer (some ⟨h, 0, none⟩)]) "Into").run Tryd.prog w = .ok (some false) w := by kernel_rfl
end
theorem own_ints2 {w : World} {base n c : Nat} {A : Option Addr} {l : List Int} (h : w.ownsRow base TIn 1 (.slice A n c) n (ints l)) (hl : l.length = n) : IntsAt A l w := by
  obtain ⟨A', c', e, -, hI⟩ := own_ints h hl
  simp only [Value.slice.injEq] at e
  rw [e.1]
  exact hI
theorem bk_below {m B : Nat} {w W : World} (hI : BkInv m w W) (hm : B ≤ m) (hB : B ≤ w.heap.size) : Below B w W :=
  ⟨hI.os, hI.tape, hI.output, hI.size, fun k hk => hI.block k (by omega) (by omega)⟩
theorem eqT5 (l0 l1 l2 l3 l4 : Int) (w : World) : (Op.equalIn 10000 T5 (.agg #[.int .i64 l0, .int .i64 l1, .int .i64 l2, .int .i64 l3, .int .i64 l4]) (.agg #[.int .i64 l0, .int .i64 l1, .int .i64 l2, .int .i64 l3, .int .i64 l4])).run Tryd.prog w = .ok true w := by
  have h := eq_flat (P := Tryd.prog) T5 3 [.int .i64, .int .i64, .int .i64, .int .i64, .int .i64] (by kernel_rfl) (by decide) (by kernel_rfl) [.int .i64 l0, .int .i64 l1, .int .i64 l2, .int .i64 l3, .int .i64 l4] [.int .i64 l0, .int .i64 l1, .int .i64 l2, .int .i64 l3, .int .i64 l4] (by rfl) (by rfl) w
  simpa [cellsEq, cellEq] using h
theorem plRankAny (b m : Nat) (A : Option Addr) (l : List Int) (n cap : Nat) (hln : l.length = n) (hn : n ≤ 1000) (hcap : n ≤ cap) (hb : ∀ a ∈ l, -9223372036854775808 ≤ a ∧ a ≤ 9223372036854775807) (w : World) (hB : Book b m w) (hx : IntsAt A l w) (hA : A = none → cap = 0) (hsl : 0 < n → ∀ g off, A = some ⟨g, off, none⟩ → g ≠ m) :
    Calls Tryd.prog 153 #[.agg #[.pointer (some ⟨b, 0, none⟩)], .slice A n cap] w fun e w' => e = .returned (.tuple #[.int .u64 (if RightV l then rankL l else 0), .bool (decide (RightV l))]) ∧ BkInv m w w' := by
  by_cases hR : RightV l
  · rw [if_pos hR, decide_eq_true hR]
    exact plRank_yes b m A l n cap hln hcap hR w hB hx hA hsl
  · rw [if_neg hR, decide_eq_false hR]
    exact (plRank_no b m A l n cap hln hn hcap hb hR w hx hA).mono fun e w' ⟨h1, h2⟩ => ⟨h1, hB.refl.below h2⟩
theorem tabRankAny (b : Nat) (A : Option Addr) (l : List Int) (n cap : Nat) (hln : l.length = n) (w : World) (hT : TableOK b w) (hx : IntsAt A l w) :
    Calls Tryd.prog 169 #[.pointer (some ⟨b, 0, none⟩), .slice A n cap] w fun e w' => e = .returned (.tuple #[.int .u64 (if RightV l then rankL l else 0), .bool (decide (RightV l))]) ∧ Below w.heap.size w w' := by
  by_cases hR : RightV l
  · rw [if_pos hR, decide_eq_true hR]
    exact tabRank_yes b A l n cap hln hR w hT hx
  · rw [if_neg hR, decide_eq_false hR]
    exact tabRank_no b A l n cap hln hR w hx
set_option maxHeartbeats 8000000 in
set_option maxRecDepth 100000 in
theorem tools_60 (A : Option Addr) (l : List Int) (n cap : Nat) (hln : l.length = n) (hcap : n ≤ cap) (hn60 : n ≤ 60) (hA : A = none → cap = 0) (k o0 o1 o2 o3 o4 : Int) (hb : ∀ a ∈ l, -9223372036854775808 ≤ a ∧ a ≤ 9223372036854775807) (w : World) (hx : IntsAt A l w) (hT : WidthW w) :
    Calls Tryd.prog 7 #[.slice A n cap, .int .i64 k, .agg #[.int .i64 o0, .int .i64 o1, .int .i64 o2, .int .i64 o3, .int .i64 o4]] w fun e w' => e = .returned (.bool true) ∧ Below w.heap.size w w' := by
  have haw := Lib.hid (fun w => awake16 w)
  have hrr := Lib.hid (fun w => refRight o0 o1 w)
  have hpt := Lib.hid (fun w => framePlain w)
  have hqt := Lib.hid (fun w => frameQuick w)
  have hra := Lib.hid (fun hR w => refAlloc15' o0 o1 o2 o3 hR w)
  have hrk := Lib.hid (fun w hx => refRank12 A l n cap hln hcap (by omega) w hx)
  have HBD := Lib.hid hb
  clear hb
  obtain ⟨rv, hrv⟩ : ∃ x, decide (RightV l) = x := ⟨_, rfl⟩
  obtain ⟨RR, hRR⟩ : ∃ x, (if RightV l then rankL l else 0) = x := ⟨_, rfl⟩
  rw [hrv, hRR] at hrk
  have HRV2 := Lib.hid hrv
  have HRR := Lib.hid hRR
  clear hrv hRR
  obtain ⟨l0, l1, l2, l3, l4, hl⟩ := allocF_five' o0 o1 o2 o3
  have a1 : aggOf (allocF o0 o1 o2 o3) = .agg #[.int .i64 l0, .int .i64 l1, .int .i64 l2, .int .i64 l3, .int .i64 l4] := by rw [hl]; rfl
  have hpa9 := Lib.hid (fun b m w hB hT => plAlloc b m o0 o1 o2 o3 w hB hT)
  have hqa9 := Lib.hid (fun hb sh w h hW => shareAlloc hb sh o0 o1 o2 o3 w h hW)
  rw [a1] at hra hpa9 hqa9
  have HX := Lib.hid hx
  have HT := Lib.hid hT
  have hn60i : ¬ 60 < (n : Int) := by omega
  have HL := Lib.hid hl
  have HLN := Lib.hid hln
  clear hx hT hl hln
  go_enter Tryd.func7, Tryd.ntmps7
  go_wp2_with fail
  refine (haw.out _).mono ?_
  rintro e w1 ⟨rfl, hb1⟩
  have hb1' : Below w.heap.size w w1 := (show Below w.heap.size w (w.alloc _) by (repeat' (first | with_reducible (first | exact Below.refl _ _ | assumption | refine Below.alloc ?_ ?_ _ | refine below_grew ?_ ?_ _ | refine Below.setCell ?_ ?_ _ | refine Below.drew ?_ | refine below_drewN ?_ _) | omega | (simp; done) | (simp; omega)))).trans (hb1.mono (by simp))
  have hof1 := (hb1.block w.heap.size (by simp)).trans (alloc_at w _)
  obtain ⟨c0, c1, c2, c3, c4⟩ := own_ofs hof1
  have HB1 := Lib.hid hb1'
  have HOF1 := Lib.hid hof1
  clear hb1 hb1' hof1 haw
  go_upto_region 7 with fail
  have hs1 : w.heap.size < w1.heap.size := (block_facts HOF1.out).2.2
  have hbb : Below w1.heap.size w1 ((w1.alloc (.cells #[.int .i64 o0, .int .i64 o1] TMo (0, 0))).alloc (.cells #[.int .i64 0, .int .i64 0, .int .i64 0, .int .i64 0, .int .i64 0] T5 (0, 0))) := by (repeat' (first | with_reducible (first | exact Below.refl _ _ | assumption | refine Below.alloc ?_ ?_ _ | refine below_grew ?_ ?_ _ | refine Below.setCell ?_ ?_ _ | refine Below.drew ?_ | refine below_drewN ?_ _) | omega | (simp; done) | (simp; omega)))
  refine cut_world (fun W => Below w.heap.size w W ∧ W.heap[w.heap.size]? = some (.cells #[.int .i64 o0, .int .i64 o1, .int .i64 o2, .int .i64 o3, .int .i64 o4] T5 (0, 0)) ∧ W.heap[w1.heap.size]? = some (.cells #[.int .i64 o0, .int .i64 o1] TMo (0, 0)) ∧ W.heap[w1.heap.size + 1]? = some (.cells #[.int .i64 0, .int .i64 0, .int .i64 0, .int .i64 0, .int .i64 0] T5 (0, 0))) ⟨HB1.out.trans (hbb.mono (by omega)), (hbb.block _ hs1).trans HOF1.out, alloc_two _ _ _, alloc_secondOf _ _ _⟩ ?_
  clear hbb HB1 HOF1 c0 c1 c2 c3 c4
  rintro V ⟨hV, hof, hmo, hwa⟩
  have HV := Lib.hid hV
  have HOF := Lib.hid hof
  have HMO := Lib.hid hmo
  have HWA := Lib.hid hwa
  obtain ⟨c0, c1, c2, c3, c4⟩ := own_ofs hof
  have hwl := (block_facts hwa).2.2
  have HBd := Lib.hid (rfl : w.heap.size = w.heap.size)
  generalize w1.heap.size = mb at *
  clear hV hof hmo hwa
  by_cases hRP : RightP o0 o1
  case' pos =>
    rw [decide_eq_true hRP] at hrr
    have HRA := Lib.hid (fun w => hra.out hRP w)
    clear hra hRP
    go_wp2_with fail
    refine (hrr.out _).mono ?_
    rintro e w2 ⟨rfl, hb2⟩
    have hof := (hb2.block _ (block_facts HOF.out).2.2).trans HOF.out
    have HOF2 := Lib.hid hof
    have HMO2 := Lib.hid ((hb2.block _ (block_facts HMO.out).2.2).trans HMO.out)
    have HWA2 := Lib.hid ((hb2.block _ hwl).trans HWA.out)
    have HV2 := Lib.hid (HV.out.trans (hb2.mono HV.out.size))
    have hwl2 := Nat.lt_of_lt_of_le hwl hb2.size
    obtain ⟨c0, c1, c2, c3, c4⟩ := own_ofs hof
    clear hof hb2 HV HOF HMO HWA hwl
    go_wp2_with fail
    refine (HRA.out _).mono ?_
    rintro e w3 ⟨rfl, hb3⟩
    have hwa := (hb3.block _ hwl2).trans HWA2.out
    have HOF3 := Lib.hid ((hb3.block _ (block_facts HOF2.out).2.2).trans HOF2.out)
    have HMO3 := Lib.hid ((hb3.block _ (block_facts HMO2.out).2.2).trans HMO2.out)
    have HV3 := Lib.hid (HV2.out.trans (hb3.mono HV2.out.size))
    obtain ⟨r0, r1, r2⟩ := block_facts hwa
    have q0 : w3.cell? ⟨mb + 1, 0, none⟩ = some (.int .i64 0) := r0 0
    have q1 : w3.cell? ⟨mb + 1, 1, none⟩ = some (.int .i64 0) := r0 1
    have q2 : w3.cell? ⟨mb + 1, 2, none⟩ = some (.int .i64 0) := r0 2
    have q3 : w3.cell? ⟨mb + 1, 3, none⟩ = some (.int .i64 0) := r0 3
    have q4 : w3.cell? ⟨mb + 1, 4, none⟩ = some (.int .i64 0) := r0 4
    have HWA3 := Lib.hid hwa
    clear hwa hb3 HV2 HOF2 HMO2 HWA2 r0 c0 c1 c2 c3 c4 HRA hrr
    go_upto_region 9 with fail
    have s0 := setCell_own w3 (mb + 1) 0 _ _ _ (.int .i64 l0) HWA3.out
    have s1 := setCell_own _ (mb + 1) 1 _ _ _ (.int .i64 l1) s0
    have s2 := setCell_own _ (mb + 1) 2 _ _ _ (.int .i64 l2) s1
    have s3 := setCell_own _ (mb + 1) 3 _ _ _ (.int .i64 l3) s2
    have s4 := setCell_own _ (mb + 1) 4 _ _ _ (.int .i64 l4) s3
    have hB4 : Below (mb + 1) w3 (((((w3.setCell ⟨mb + 1, 0, none⟩ (.int .i64 l0)).setCell ⟨mb + 1, 1, none⟩ (.int .i64 l1)).setCell ⟨mb + 1, 2, none⟩ (.int .i64 l2)).setCell ⟨mb + 1, 3, none⟩ (.int .i64 l3)).setCell ⟨mb + 1, 4, none⟩ (.int .i64 l4)) := by (repeat' (first | with_reducible (first | exact Below.refl _ _ | assumption | refine Below.alloc ?_ ?_ _ | refine below_grew ?_ ?_ _ | refine Below.setCell ?_ ?_ _ | refine Below.drew ?_ | refine below_drewN ?_ _) | omega | (simp; done) | (simp; omega)))
    refine cut_world (fun W => Below w.heap.size w W ∧ W.heap[w.heap.size]? = some (.cells #[.int .i64 o0, .int .i64 o1, .int .i64 o2, .int .i64 o3, .int .i64 o4] T5 (0, 0)) ∧ W.heap[mb]? = some (.cells #[.int .i64 o0, .int .i64 o1] TMo (0, 0)) ∧ W.heap[mb + 1]? = some (.cells #[.int .i64 l0, .int .i64 l1, .int .i64 l2, .int .i64 l3, .int .i64 l4] T5 (0, 0))) ⟨HV3.out.trans (hB4.mono (by omega)), (hB4.block _ (by omega)).trans HOF3.out, (hB4.block _ (by omega)).trans HMO3.out, s4⟩ ?_
    clear s0 s1 s2 s3 s4 hB4 HV3 HOF3 HMO3 HWA3 q0 q1 q2 q3 q4 r1 r2 hwl2
  case' neg =>
    have hz := allocF_not o0 o1 o2 o3 hRP
    rw [HL.out] at hz
    simp only [List.cons.injEq, and_true] at hz
    have HZ := Lib.hid hz
    clear hz
    rw [decide_eq_false hRP] at hrr
    clear hra hRP
    go_wp2_with fail
    refine (hrr.out _).mono ?_
    rintro e w2 ⟨rfl, hb2⟩
    have HOF2 := Lib.hid ((hb2.block _ (block_facts HOF.out).2.2).trans HOF.out)
    have HMO2 := Lib.hid ((hb2.block _ (block_facts HMO.out).2.2).trans HMO.out)
    have HWA2 := Lib.hid ((hb2.block _ hwl).trans HWA.out)
    have HV2 := Lib.hid (HV.out.trans (hb2.mono HV.out.size))
    clear hb2 HV HOF HMO HWA hwl c0 c1 c2 c3 c4
    go_upto_region 9 with fail
    refine cut_world (fun W => Below w.heap.size w W ∧ W.heap[w.heap.size]? = some (.cells #[.int .i64 o0, .int .i64 o1, .int .i64 o2, .int .i64 o3, .int .i64 o4] T5 (0, 0)) ∧ W.heap[mb]? = some (.cells #[.int .i64 o0, .int .i64 o1] TMo (0, 0)) ∧ W.heap[mb + 1]? = some (.cells #[.int .i64 l0, .int .i64 l1, .int .i64 l2, .int .i64 l3, .int .i64 l4] T5 (0, 0))) ⟨HV2.out, HOF2.out, HMO2.out, by obtain ⟨z0, z1, z2, z3, z4⟩ := HZ.out; rw [z0, z1, z2, z3, z4]; exact HWA2.out⟩ ?_
    clear HV2 HOF2 HMO2 HWA2 hrr
  all_goals
    rintro V1 ⟨hV, hof, hmo, hwa⟩
    have HV1 := Lib.hid hV
    have HOF1 := Lib.hid hof
    have HMO1 := Lib.hid hmo
    have HWA1 := Lib.hid hwa
    clear hV hof hmo hwa
    go_wp2_with fail
    refine (hrk.out _ (HX.out.keep (HV1.out))).mono ?_
    rintro e w4 ⟨rfl, hb4⟩
    have HV4 := Lib.hid (HV1.out.trans (hb4.mono HV1.out.size))
    have HOF4 := Lib.hid ((hb4.block _ (block_facts HOF1.out).2.2).trans HOF1.out)
    have HMO4 := Lib.hid ((hb4.block _ (block_facts HMO1.out).2.2).trans HMO1.out)
    have HWA4 := Lib.hid ((hb4.block _ (block_facts HWA1.out).2.2).trans HWA1.out)
    clear hb4 HV1 HOF1 HMO1 HWA1
    go_wp2_with fail
    refine (hpt.out _).mono ?_
    rintro e w5 ⟨b, m, rfl, hbs, hms, hBk, hb5⟩
    have HV5 := Lib.hid (HV4.out.trans (hb5.mono HV4.out.size))
    have HOF5 := Lib.hid ((hb5.block _ (block_facts HOF4.out).2.2).trans HOF4.out)
    have HMO5 := Lib.hid ((hb5.block _ (block_facts HMO4.out).2.2).trans HMO4.out)
    have HWA5 := Lib.hid ((hb5.block _ (block_facts HWA4.out).2.2).trans HWA4.out)
    have HBK5 := Lib.hid hBk
    have HMW := Lib.hid (Nat.le_trans HV4.out.size hms)
    clear hb5 hBk hbs hms HV4 HOF4 HMO4 HWA4
    go_wp2_with fail
    refine (hqt.out _).mono ?_
    rintro e w6 ⟨tb, hb, sh, rfl, -, hTb, hSh, hb6⟩
    have HV6 := Lib.hid (HV5.out.trans (hb6.mono HV5.out.size))
    have HOF6 := Lib.hid ((hb6.block _ (block_facts HOF5.out).2.2).trans HOF5.out)
    have HMO6 := Lib.hid ((hb6.block _ (block_facts HMO5.out).2.2).trans HMO5.out)
    have HWA6 := Lib.hid ((hb6.block _ (block_facts HWA5.out).2.2).trans HWA5.out)
    have HBK6 := Lib.hid (HBK5.out.inv (HBK5.out.refl.below hb6))
    have HTB6 := Lib.hid hTb
    have HSH6 := Lib.hid hSh
    clear hb6 hTb hSh HV5 HOF5 HMO5 HWA5 HBK5
    go_upto_region 11 with fail
    have hsz5 := HV6.out.size
    refine cut_world (fun W => Below w.heap.size w W ∧ W.heap[w.heap.size]? = some (.cells #[.int .i64 o0, .int .i64 o1, .int .i64 o2, .int .i64 o3, .int .i64 o4] T5 (0, 0)) ∧ W.heap[mb]? = some (.cells #[.int .i64 o0, .int .i64 o1] TMo (0, 0)) ∧ W.heap[mb + 1]? = some (.cells #[.int .i64 l0, .int .i64 l1, .int .i64 l2, .int .i64 l3, .int .i64 l4] T5 (0, 0)) ∧ W.heap[w6.heap.size]? = some (.cells #[.iface TPl (.agg #[.pointer (some ⟨b, 0, none⟩)]), .iface TQk (.agg #[.pointer (some ⟨tb, 0, none⟩), .pointer (some ⟨hb, 0, none⟩)])] TTl (0, 0)) ∧ Book b m W ∧ TableOK tb W ∧ ShareAt hb sh W) ⟨HV6.out.trans ((show Below w6.heap.size w6 (w6.alloc _) by (repeat' (first | with_reducible (first | exact Below.refl _ _ | assumption | refine Below.alloc ?_ ?_ _ | refine below_grew ?_ ?_ _ | refine Below.setCell ?_ ?_ _ | refine Below.drew ?_ | refine below_drewN ?_ _) | omega | (simp; done) | (simp; omega)))).mono hsz5), (alloc_old _ _ _ (block_facts HOF6.out).2.2).trans HOF6.out, (alloc_old _ _ _ (block_facts HMO6.out).2.2).trans HMO6.out, (alloc_old _ _ _ (block_facts HWA6.out).2.2).trans HWA6.out, alloc_at _ _, HBK6.out.inv (HBK6.out.refl.alloc _), HTB6.out.below HTB6.out.lt (show Below w6.heap.size w6 (w6.alloc _) by (repeat' (first | with_reducible (first | exact Below.refl _ _ | assumption | refine Below.alloc ?_ ?_ _ | refine below_grew ?_ ?_ _ | refine Below.setCell ?_ ?_ _ | refine Below.drew ?_ | refine below_drewN ?_ _) | omega | (simp; done) | (simp; omega)))), HSH6.out.keep' (show Below w6.heap.size w6 (w6.alloc _) by (repeat' (first | with_reducible (first | exact Below.refl _ _ | assumption | refine Below.alloc ?_ ?_ _ | refine below_grew ?_ ?_ _ | refine Below.setCell ?_ ?_ _ | refine Below.drew ?_ | refine below_drewN ?_ _) | omega | (simp; done) | (simp; omega))))⟩ ?_
    generalize w6.heap.size = sl at *
    clear HV6 HOF6 HMO6 HWA6 HBK6 HTB6 HSH6 hsz5
    rintro V0 ⟨hV, hof, hmo, hwa, hsl, hbk, htb, hsh⟩
    have HV0 := Lib.hid hV
    have HOF0 := Lib.hid hof
    have HMO0 := Lib.hid hmo
    have HWA0 := Lib.hid hwa
    have HSL := Lib.hid hsl
    have HBK := Lib.hid hbk
    have HTB := Lib.hid htb
    have HSH := Lib.hid hsh
    have HWV := Lib.hid (show WidthW V0 from HT.out.below hV)
    have HWD := Lib.hid (fun W (hI : BkInv m V0 W) => (HWV.out.inv HBK.out hI : WidthW W))
    have HXK := Lib.hid (fun W (hI : BkInv m V0 W) => bk_ints (w0 := w) hI (HX.out.keep HV0.out) HMW.out (fun g off e hp => ints_lt HX.out hp g off e))
    have HAM := Lib.hid (fun (hp : 0 < n) g off (e : A = some ⟨g, off, none⟩) => (show g ≠ m from by have h1 := ints_lt HX.out (by rw [HLN.out]; exact hp) g off e; have h2 := HMW.out; omega))
    have HPRK := Lib.hid (fun W (hI : BkInv m V0 W) hX => plRankAny b m A l n cap HLN.out (by omega) hcap HBD.out W (HBK.out.inv hI) hX hA HAM.out)
    rw [HRV2.out, HRR.out] at HPRK
    have HQRK := Lib.hid (fun W (hI : BkInv m V0 W) hX => tabRankAny tb A l n cap HLN.out W (bk_tab HBK.out hI HTB.out) hX)
    rw [HRV2.out, HRR.out] at HQRK
    clear hV hof hmo hwa hsl hbk htb hsh
    go_loopw [12, 13, 14, 15, 16, 51] (fun v12 v13 v14 v15 v16 cnt wr => ∃ i : Nat, i ≤ 2 ∧ cnt = .int .i64 i ∧ BkInv m V0 wr) (fun _ _ _ _ _ cnt _ => 2 - (intOf cnt).toNat)
    case atStart => exact ⟨0, by omega, rfl, HBK.out.refl⟩
    case round =>
      obtain ⟨i, hi2, rfl, hi⟩ := hrel
      have HI := Lib.hid hi
      have HXR := Lib.hid (HXK.out _ hi)
      have hi0 : (0 : Int) ≤ i := by omega
      clear hi
      by_cases hlt : i < 2
      · have hlti : (i : Int) < 2 := by omega
        rcases (show i = 0 ∨ i = 1 by omega) with hii | hii
        · have HI0 := Lib.hid hii
          clear hii
          have hcv : wr.cell? ⟨sl, i, none⟩ = some (.iface TPl (.agg #[.pointer (some ⟨b, 0, none⟩)])) := by
            rw [(block_facts (bk_cells HBK.out HI.out HSL.out)).1 i, HI0.out]
            rfl
          go_wp2_with fail
          refine (HPRK.out wr HI.out HXR.out).mono ?_
          rintro e w8 ⟨rfl, hi8⟩
          have HI8 := Lib.hid (HI.out.trans hi8)
          have HX8 := Lib.hid (HXK.out _ HI8.out)
          clear hi8 hcv HXR HI
          go_upto_region 15 with (first | (at_builtin; refine append_ints rfl (.tmp 61) (.tmp 62) rfl rfl A l n cap HLN.out rfl HX8.out hA hcap (by omega) ?_; intro vy w9 hoy hb9) | (at_builtin; refine append_ints rfl (.tmp 64) (.tmp 65) rfl rfl A l n cap HLN.out rfl (HX8.out.keep hb9) hA hcap (by omega) ?_; intro vz w10 hoz hb10))
          have hoy2 := own_kept hoy fun k h1 h2 => hb10.block k h2
          have hi10 := (HI8.out.below (hb9.mono HI8.out.size)).below (hb10.mono (Nat.le_trans HI8.out.size hb9.size))
          have hml : m < V0.heap.size := HBK.out.lt_m
          refine cut_world (fun W => BkInv m V0 W ∧ W.ownsRow w8.heap.size TIn 1 vy n (ints l) ∧ W.ownsRow w9.heap.size TIn 1 vz n (ints l)) ⟨hi10, hoy2, hoz⟩ ?_
          have hm8 : m < w8.heap.size := Nat.lt_of_lt_of_le hml HI8.out.size
          have hm9 : m < w9.heap.size := Nat.lt_of_lt_of_le hm8 hb9.size
          have ht8 : tb < w8.heap.size := Nat.lt_of_lt_of_le HTB.out.lt HI8.out.size
          have ht9 : tb < w9.heap.size := Nat.lt_of_lt_of_le ht8 hb9.size
          generalize w8.heap.size = by8 at *
          generalize w9.heap.size = by9 at *
          clear hoy hoz hb9 hb10 hoy2 hi10 HX8 HI8
          rintro V9 ⟨hi, hoy, hoz⟩
          obtain ⟨Ay, cy, rfl, hcy, -⟩ := own_ints hoy HLN.out
          obtain ⟨Az, cz, rfl, hcz, -⟩ := own_ints hoz HLN.out
          have HI9 := Lib.hid hi
          have HX9 := Lib.hid (HXK.out _ hi)
          have HOY := Lib.hid hoy
          have HOZ := Lib.hid hoz
          have HB9 := Lib.hid (HBK.out.inv hi)
          have HT9 := Lib.hid (bk_tab HBK.out hi HTB.out)
          have HS9 := Lib.hid (bk_share HBK.out hi HSH.out)
          have HW9 := Lib.hid (HWD.out _ hi)
          have hof := bk_cells HBK.out hi HOF0.out
          have hmo := bk_cells HBK.out hi HMO0.out
          have hwa := bk_cells HBK.out hi HWA0.out
          obtain ⟨c0, c1, c2, c3, c4⟩ := own_ofs hof
          obtain ⟨e0, e1, e2, e3, e4⟩ := own_ofs hwa
          have d0 : V9.cell? ⟨mb, 0, none⟩ = some (.int .i64 o0) := (block_facts hmo).1 0
          have d1 : V9.cell? ⟨mb, 1, none⟩ = some (.int .i64 o1) := (block_facts hmo).1 1
          have s1 := (block_facts hof).2.2
          have s2 := (block_facts hmo).2.2
          have s3 := (block_facts hwa).2.2
          have n1 := book_ne HB9.out hof
          have n2 := book_ne HB9.out hmo
          have n3 := book_ne HB9.out hwa
          clear hi hoy hoz hof hmo hwa
          refine cut_world (fun X => ∃ y, X = V9.bkd m y) (bkInv_as HB9.out.refl) ?_
          rintro _ ⟨y9, rfl⟩
          have hm9' : m < V9.heap.size := HB9.out.lt_m
          have HPV := Lib.hid (fun x => Calls.bkd_of hm9' (bookV b m (n : Int) k (V9.bkd m x) (Book.any HB9.out x)))
          have HRV := Lib.hid (fun x => Calls.bkd_of_below (refV12 (n : Int) k (V9.bkd m x)))
          have HPA := Lib.hid (fun x => Calls.bkd_of hm9' ((hpa9.out b m (V9.bkd m x) (Book.any HB9.out x) (HW9.out.inv HB9.out (HB9.out.refl.bkd x))).mono fun e w' ⟨h1, h2⟩ => ⟨h1, bkInv_as h2⟩))
          have hm1 := fun f w => meth_plV f b w
          have hm2 := fun f w => meth_plA f b w
          have hm3 := fun f w => meth_plI f b w
          have hm4 := fun f w => nil_plI f b w
          have BI := Lib.hid (fun x => (HB9.out.refl.bkd x : BkInv m V9 (V9.bkd m x)))
          have HIZ := Lib.hid (fun x => Calls.bkd_of hm9' ((plIntoNo b m Az n cz k (vF (n : Int) k) (Int.le_refl _) (V9.bkd m x) (Book.any HB9.out x)).mono fun e w' ⟨h1, h2⟩ => ⟨h1, bkInv_as h2⟩))
          have HEZ := Lib.hid (fun x => Calls.bkd_of_below ((lawInts A Az l n cap cz HLN.out hcap hcz (by omega) (V9.bkd m x) (bk_ints (w0 := w) (BI.out x) HX9.out HMW.out (fun g off e hp => ints_lt HX.out hp g off e)) ((own_ints2 (own_bk HOZ.out (BI.out x) hm9) HLN.out))).mono fun e w' ⟨h1, h2⟩ => ⟨h1, drawn_below h2⟩))
          have heq := fun w => eqT5 l0 l1 l2 l3 l4 w
          generalize vF (n : Int) k = vv at *
          refine wp_region_bkd_all (by kernel_rfl) (by kernel_rfl) ?_
          repeat (go_big_quiet_step (first | (go_at_call 149; exact HPV.out _) | (go_at_call 34; exact HRV.out _) | (go_at_call 151; exact HPA.out _)))
          refine wpQuiet_nil ?_
          rintro _ ⟨x, rfl⟩
          go_wp2_with fail
          cases rv
          case' false =>
            refine wp_region_bkd_all (by kernel_rfl) (by kernel_rfl) ?_
            repeat (go_big_quiet_step (fail))
            refine wpQuiet_nil ?_
            rintro _ ⟨x, rfl⟩
          case' true =>
            have HR := Lib.hid (of_decide_eq_true HRV2.out)
            have HPU := Lib.hid (fun x => Calls.bkd_of_below ((refPul11 A l n cap HLN.out hcap (fun a ha => by have := HR.out.2.1 a ha; unfold mag at this; omega) (by omega) (V9.bkd m x) (bk_ints (w0 := w) (BI.out x) HX9.out HMW.out (fun g off e hp => ints_lt HX.out hp g off e))).mono fun e w' ⟨h1, h2⟩ => ⟨h1, drawn_below h2⟩))
            have HIY := Lib.hid (fun x => Calls.bkd_of hm9' ((plIntoSame b m by8 n (.slice Ay n cy) l HLN.out HR.out (V9.bkd m x) (Book.any HB9.out x) (own_bk HOY.out (BI.out x) hm8) hm8).mono fun e w' ⟨h1, h2⟩ => ⟨h1, bkInv_as h2⟩))
            have HEY := Lib.hid (fun x => Calls.bkd_of_below ((lawInts A Ay l n cap cy HLN.out hcap hcy (by omega) (V9.bkd m x) (bk_ints (w0 := w) (BI.out x) HX9.out HMW.out (fun g off e hp => ints_lt HX.out hp g off e)) ((own_ints2 (own_bk HOY.out (BI.out x) hm8) HLN.out))).mono fun e w' ⟨h1, h2⟩ => ⟨h1, drawn_below h2⟩))
            obtain rfl : RR = rankL l := by rw [← HRR.out, if_pos HR.out]
            refine wp_region_bkd_all (by kernel_rfl) (by kernel_rfl) ?_
            repeat (go_big_quiet_step (first | (go_at_call 31; with_reducible exact HPU.out _) | (go_at_call 152; with_reducible exact HIY.out _) | (go_at_call 35; with_reducible exact HEY.out _)))
            refine wpQuiet_nil ?_
            rintro _ ⟨x, rfl⟩
          all_goals
            go_wp2_with fail
            refine wp_region_bkd_all (by kernel_rfl) (by kernel_rfl) ?_
            repeat (go_big_quiet_step (first | (go_at_call 34; with_reducible exact HRV.out _) | (go_at_call 152; with_reducible exact HIZ.out _) | (go_at_call 35; with_reducible exact HEZ.out _)))
            refine wpQuiet_nil ?_
            rintro _ ⟨x, rfl⟩
            go_wp2_with fail
            go_roundw
            case rel => exact ⟨i + 1, by omega, rfl, HI9.out.trans (BI.out _)⟩
            case measure => simp [intOf]; omega
        · have HI0 := Lib.hid hii
          clear hii
          have hcv : wr.cell? ⟨sl, i, none⟩ = some (.iface TQk (.agg #[.pointer (some ⟨tb, 0, none⟩), .pointer (some ⟨hb, 0, none⟩)])) := by
            rw [(block_facts (bk_cells HBK.out HI.out HSL.out)).1 i, HI0.out]
            rfl
          go_wp2_with fail
          refine (HQRK.out wr HI.out HXR.out).mono ?_
          rintro e w8 ⟨rfl, hi8⟩
          have HI8 := Lib.hid (HI.out.below (hi8.mono HI.out.size))
          have HX8 := Lib.hid (HXK.out _ HI8.out)
          clear hi8 hcv HXR HI
          go_upto_region 15 with (first | (at_builtin; refine append_ints rfl (.tmp 61) (.tmp 62) rfl rfl A l n cap HLN.out rfl HX8.out hA hcap (by omega) ?_; intro vy w9 hoy hb9) | (at_builtin; refine append_ints rfl (.tmp 64) (.tmp 65) rfl rfl A l n cap HLN.out rfl (HX8.out.keep hb9) hA hcap (by omega) ?_; intro vz w10 hoz hb10))
          have hoy2 := own_kept hoy fun k h1 h2 => hb10.block k h2
          have hi10 := (HI8.out.below (hb9.mono HI8.out.size)).below (hb10.mono (Nat.le_trans HI8.out.size hb9.size))
          have hml : m < V0.heap.size := HBK.out.lt_m
          refine cut_world (fun W => BkInv m V0 W ∧ W.ownsRow w8.heap.size TIn 1 vy n (ints l) ∧ W.ownsRow w9.heap.size TIn 1 vz n (ints l)) ⟨hi10, hoy2, hoz⟩ ?_
          have hm8 : m < w8.heap.size := Nat.lt_of_lt_of_le hml HI8.out.size
          have hm9 : m < w9.heap.size := Nat.lt_of_lt_of_le hm8 hb9.size
          have ht8 : tb < w8.heap.size := Nat.lt_of_lt_of_le HTB.out.lt HI8.out.size
          have ht9 : tb < w9.heap.size := Nat.lt_of_lt_of_le ht8 hb9.size
          generalize w8.heap.size = by8 at *
          generalize w9.heap.size = by9 at *
          clear hoy hoz hb9 hb10 hoy2 hi10 HX8 HI8
          rintro V9 ⟨hi, hoy, hoz⟩
          obtain ⟨Ay, cy, rfl, hcy, -⟩ := own_ints hoy HLN.out
          obtain ⟨Az, cz, rfl, hcz, -⟩ := own_ints hoz HLN.out
          have HI9 := Lib.hid hi
          have HX9 := Lib.hid (HXK.out _ hi)
          have HOY := Lib.hid hoy
          have HOZ := Lib.hid hoz
          have HB9 := Lib.hid (HBK.out.inv hi)
          have HT9 := Lib.hid (bk_tab HBK.out hi HTB.out)
          have HS9 := Lib.hid (bk_share HBK.out hi HSH.out)
          have HW9 := Lib.hid (HWD.out _ hi)
          have hof := bk_cells HBK.out hi HOF0.out
          have hmo := bk_cells HBK.out hi HMO0.out
          have hwa := bk_cells HBK.out hi HWA0.out
          obtain ⟨c0, c1, c2, c3, c4⟩ := own_ofs hof
          obtain ⟨e0, e1, e2, e3, e4⟩ := own_ofs hwa
          have d0 : V9.cell? ⟨mb, 0, none⟩ = some (.int .i64 o0) := (block_facts hmo).1 0
          have d1 : V9.cell? ⟨mb, 1, none⟩ = some (.int .i64 o1) := (block_facts hmo).1 1
          have s1 := (block_facts hof).2.2
          have s2 := (block_facts hmo).2.2
          have s3 := (block_facts hwa).2.2
          have n1 := book_ne HB9.out hof
          have n2 := book_ne HB9.out hmo
          have n3 := book_ne HB9.out hwa
          clear hi hoy hoz hof hmo hwa
          refine cut_world (fun X => ∃ y, X = V9.grew y) ⟨_, (World.grew_none _).symm⟩ ?_
          rintro _ ⟨y9, rfl⟩
          have HPV := Lib.hid (fun x => Calls.grew_of_same (tabV tb (V9.grew x) (HT9.out.below HT9.out.lt (below_grew (Below.refl _ _) (Nat.le_refl _) x)) (n : Int) k))
          have HRV := Lib.hid (fun x => Calls.grew_of (refV12 (n : Int) k (V9.grew x)))
          have HPA := Lib.hid (fun x => Calls.grew_of (hqa9.out hb sh (V9.grew x) (HS9.out.keep' (below_grew (Below.refl _ _) (Nat.le_refl _) x)) (HW9.out.below (below_grew (Below.refl _ _) (Nat.le_refl _) x))))
          have hm1 := fun f w => meth_qkV f tb hb w
          have hm2 := fun f w => meth_qkA f tb hb w
          have hm3 := fun f w => meth_qkI f tb hb w
          have hm4 := fun f w => nil_qkI f tb hb w
          have GR := Lib.hid (fun x => (below_grew (Below.refl _ _) (Nat.le_refl _) x : Below V9.heap.size V9 (V9.grew x)))
          have HIZ := Lib.hid (fun x => Calls.grew_of (tabIntoNo tb Az n cz k (vF (n : Int) k) (Int.le_refl _) (V9.grew x) (HT9.out.below HT9.out.lt (GR.out x))))
          have HEZ := Lib.hid (fun x => Calls.grew_of ((lawInts A Az l n cap cz HLN.out hcap hcz (by omega) (V9.grew x) (HX9.out.keep (GR.out x)) ((own_ints2 (own_kept HOZ.out fun k h1 h2 => (GR.out x).block k h2) HLN.out))).mono fun e w' ⟨h1, h2⟩ => ⟨h1, drawn_below h2⟩))
          have heq := fun w => eqT5 l0 l1 l2 l3 l4 w
          generalize vF (n : Int) k = vv at *
          first | refine wp_region_grew_all2 (by kernel_rfl) (by kernel_rfl) ?_ | refine wp_region_grew_all (by kernel_rfl) (by kernel_rfl) ?_
          repeat (go_big_quiet_step (first | (go_at_call 80; exact HPV.out _) | (go_at_call 34; exact HRV.out _) | (go_at_call 171; exact HPA.out _)))
          refine wpQuiet_nil ?_
          rintro _ ⟨x, rfl⟩
          go_wp2_with fail
          cases rv
          case' false =>
            first | refine wp_region_grew_all2 (by kernel_rfl) (by kernel_rfl) ?_ | refine wp_region_grew_all (by kernel_rfl) (by kernel_rfl) ?_
            repeat (go_big_quiet_step (fail))
            refine wpQuiet_nil ?_
            rintro _ ⟨x, rfl⟩
          case' true =>
            have HR := Lib.hid (of_decide_eq_true HRV2.out)
            have HPU := Lib.hid (fun x => Calls.grew_of ((refPul11 A l n cap HLN.out hcap (fun a ha => by have := HR.out.2.1 a ha; unfold mag at this; omega) (by omega) (V9.grew x) (HX9.out.keep (GR.out x))).mono fun e w' ⟨h1, h2⟩ => ⟨h1, drawn_below h2⟩))
            have HIY := Lib.hid (fun x => Calls.grew_of (qkIntoSame tb by8 n (.slice Ay n cy) l HLN.out HR.out (V9.grew x) (HT9.out.below HT9.out.lt (GR.out x)) (own_kept HOY.out fun k h1 h2 => (GR.out x).block k h2) ht8))
            have HEY := Lib.hid (fun x => Calls.grew_of ((lawInts A Ay l n cap cy HLN.out hcap hcy (by omega) (V9.grew x) (HX9.out.keep (GR.out x)) ((own_ints2 (own_kept HOY.out fun k h1 h2 => (GR.out x).block k h2) HLN.out))).mono fun e w' ⟨h1, h2⟩ => ⟨h1, drawn_below h2⟩))
            obtain rfl : RR = rankL l := by rw [← HRR.out, if_pos HR.out]
            first | refine wp_region_grew_all2 (by kernel_rfl) (by kernel_rfl) ?_ | refine wp_region_grew_all (by kernel_rfl) (by kernel_rfl) ?_
            repeat (go_big_quiet_step (first | (go_at_call 31; with_reducible exact HPU.out _) | (go_at_call 168; with_reducible exact HIY.out _) | (go_at_call 35; with_reducible exact HEY.out _)))
            refine wpQuiet_nil ?_
            rintro _ ⟨x, rfl⟩
          all_goals
            go_wp2_with fail
            first | refine wp_region_grew_all2 (by kernel_rfl) (by kernel_rfl) ?_ | refine wp_region_grew_all (by kernel_rfl) (by kernel_rfl) ?_
            repeat (go_big_quiet_step (first | (go_at_call 34; with_reducible exact HRV.out _) | (go_at_call 168; with_reducible exact HIZ.out _) | (go_at_call 35; with_reducible exact HEZ.out _)))
            refine wpQuiet_nil ?_
            rintro _ ⟨x, rfl⟩
            go_wp2_with fail
            go_roundw
            case rel => exact ⟨i + 1, by omega, rfl, HI9.out.below ((GR.out _).mono HI9.out.size)⟩
            case measure => simp [intOf]; omega
      · have hlti : ¬ (i : Int) < 2 := by omega
        go_wp2_with fail
        go_ret
        exact ⟨rfl, HV0.out.trans (bk_below HI.out HMW.out HV0.out.size)⟩
end Go.Proofs.YtbcdnbbpkikppaaDoor
end

section
namespace Go
open Go.RowKit Go.ChangeShapes Go.WideShapes
/-- All arguments read again. -/
theorem trodAll_below {H : Type} {enc : TypeId × Value → H} {P : Program} (hl : laidOutB P = true) {W W' : World} (hb : Below W.heap.size W W') :
    ∀ (ts : List TypeId) (vs : List Value) (ds : List (DataW H)) (ps : List MemPlace), (ts.all fun t => P.readableRec t && decide (t < P.types.size)) = true →
      DataW.TrodAll enc P W 0 (fun _ => true) true ts vs ds ps → (∀ x ∈ ps, x.block < W.heap.size) → DataW.TrodAll enc P W' 0 (fun b => decide (b < W.heap.size)) true ts vs ds ps
  | [], vs, ds, ps, _, h, _ => by
    obtain ⟨rfl, rfl, rfl⟩ := trodAll_nil h
    exact trodAll_mk0
  | t :: ts, vs, ds, ps, hr, h, hlt => by
    simp only [List.all_cons, Bool.and_eq_true, decide_eq_true_eq] at hr
    obtain ⟨v, vs', d, ds', p, q, rfl, rfl, rfl, h1, h2⟩ := trodAll_cons h
    exact trodAll_cons_mk (Below.trod hl hr.1.1 hr.1.2 h1 hb (fun x hx => hlt x (List.mem_append_left _ hx))) (trodAll_below hl hb ts vs' ds' q hr.2 h2 (fun x hx => hlt x (List.mem_append_right _ hx)))
end Go
end

section
namespace Go.Proofs.YtbcdnbbpkikppaaDoor
open Go.RowKit
theorem widths_of {W : World} {rest : List (String × DataW Unit)} (h : laidMet Tryd.prog (("spinet/mode.widths", Rows.laid_spinet_mode_widths) :: rest) W) : WidthW W := by
  have hT := Lib.tabIs_of_head (P := Tryd.prog) (g := 0) (t := 29) (e := 3) (n := 5) (k := .i64) (zs := widL) (by kernel_rfl) (by kernel_rfl) Tryd.underlying29 Tryd.underlying3 (by kernel_rfl) (by kernel_rfl) h
  have hc := fun i hi => hT.cell (g := 0) (by kernel_rfl) i hi
  exact ⟨World.block_lt_of_cell? W ⟨0, 0, none⟩ (hc 0 (by decide)), hc⟩
end Go.Proofs.YtbcdnbbpkikppaaDoor
end

section
namespace Go
open Go.RowKit
set_option linter.unusedSimpArgs false
section
variable {H : Type} {enc : TypeId × Value → H} {P : Program} {w : World} {base : Nat} {spare : Nat → Bool} {held : Bool}
theorem addr_add (b off x : Nat) : (⟨b, off, none⟩ : Addr).add x = ⟨b, off + x, none⟩ := by
  unfold Addr.add
  split
  · rename_i h; subst h; rfl
  · rfl
theorem cells?_at {a : Addr} {n : Nat} {cs : List Value} (h : w.cells? base a n = some cs) : base ≤ a.block ∧ cs.length = n ∧ ∀ i, i < n → w.cell? (a.add i) = cs[i]? := by
  unfold World.cells? at h
  split at h
  · rename_i hb
    have h1 := mapM_some_length h
    have h2 := mapM_some_get h
    rw [List.length_range] at h1
    exact ⟨hb, h1, fun i hi => h2 i i (by rw [List.getElem?_range hi])⟩
  · cases h
/-- A slice whose elements are flat: where it lies, and each element's cells. -/
theorem open_flat_slice {r : Reach} {b0 : Nat} {t e : TypeId} {v : Value} {dd : DataW H} {p : List MemPlace} (d : Nat) (ls : List Leaf) (ht : P.underlying t = some (.slice e)) (hl : layout P d e = some ls) (hpos : 0 < ls.length)
    (hv : Value.okWide P w r b0 t v) (h : DataW.Trod enc P w base spare held t v dd p) :
    ∃ A len cap, v = .slice A len cap ∧ len ≤ cap ∧ cap ≤ maxLen ∧ (0 < len → ∃ b off, A = some ⟨b, off, none⟩ ∧ base ≤ b ∧ b < w.heap.size ∧ ∀ i, i < len → ∃ cs : List Value, fitAllW ls cs = true ∧ ∀ j, j < ls.length → w.cell? ⟨b, off + i * ls.length + j, none⟩ = cs[j]?) := by
  obtain ⟨fuel, hf⟩ := h
  have hne : v.cells.toList = [v] := by
    cases v with
    | agg cs => simp [Value.okWide, ht, Cell.okWide, Cell.ok] at hv
    | _ => rfl
  rw [hne] at hf
  rcases DataW.trod_slice ht hf with ⟨hcs, _⟩ | ⟨a, len, cap, elems, rest, n, _, hcs, _, hb, hle, hm, hlen, hel, _, _⟩
  · obtain rfl : v = .slice none 0 0 := by simpa using hcs
    exact ⟨none, 0, 0, rfl, Nat.le_refl _, by unfold maxLen; omega, fun h => absurd h (by omega)⟩
  · obtain rfl : v = .slice (some a) len cap := by simpa using hcs
    refine ⟨some a, len, cap, rfl, hle, hm, fun hp => ?_⟩
    have hce := layout_cells hl
    have each : ∀ i, i < len → ∃ cs : List Value, fitAllW ls cs = true ∧ ∀ j, j < ls.length → w.cell? ((a.add (i * ls.length)).add j) = cs[j]? := fun i hi => by
      have h1 := hel i hi
      rw [List.getElem?_eq_getElem (by omega)] at h1
      obtain ⟨cs, h2, h3⟩ := Option.bind_eq_some_iff.1 h1
      rw [hce] at h2
      obtain ⟨_, h4, h5⟩ := cells?_at h2
      exact ⟨cs, flat_of_trod d n e ls cs _ hl h3, h5⟩
    -- the address is a cell's
    have hs : a.spot = none ∧ a.block < w.heap.size := by
      obtain ⟨cs, h1, h2⟩ := each 0 hp
      have h3 := h2 0 hpos
      have h4 := fitAllW_length h1
      rw [List.getElem?_eq_getElem (by omega)] at h3
      have e : (a.add (0 * ls.length)).add 0 = a := by simp [Addr.add]
      rw [e] at h3
      refine ⟨?_, World.block_lt_of_cell? w a h3⟩
      unfold World.cell? at h3
      split at h3
      · split at h3
        · cases h3
        · rename_i hh
          cases hsp : a.spot with
          | none => rfl
          | some x => rw [hsp] at hh; simp at hh
      · cases h3
    obtain ⟨b, off, sp⟩ := a
    obtain ⟨hs1, hs2⟩ := hs
    simp only at hs1 hs2
    subst hs1
    refine ⟨b, off, rfl, hb, hs2, fun i hi => ?_⟩
    obtain ⟨cs, h1, h2⟩ := each i hi
    refine ⟨cs, h1, fun j hj => ?_⟩
    have e : ((⟨b, off, none⟩ : Addr).add (i * ls.length)).add j = ⟨b, off + i * ls.length + j, none⟩ := by
      rw [addr_add, addr_add]
    rw [← e]
    exact h2 j hj
end
/-- The whole number behind an address. -/
def intCell (w : World) (A : Option Addr) (k : Nat) : Int := match A with | some a => intOf ((w.cell? ⟨a.block, a.off + k, none⟩).getD (.bool false)) | none => 0
/-- What 'open_flat_slice' tells, cell by cell, as whole numbers. -/
theorem int_cells {w : World} {A : Option Addr} {len base : Nat} {ls : List Leaf} (h : 0 < len → ∃ b off, A = some ⟨b, off, none⟩ ∧ base ≤ b ∧ b < w.heap.size ∧ ∀ i, i < len → ∃ cs : List Value, fitAllW ls cs = true ∧ ∀ j, j < ls.length → w.cell? ⟨b, off + i * ls.length + j, none⟩ = cs[j]?) :
    0 < len → ∃ b off, A = some ⟨b, off, none⟩ ∧ b < w.heap.size ∧ ∀ i, i < len → ∀ (j : Nat) (k : IntKind), ls[j]? = some (.int k) → w.cell? ⟨b, off + i * ls.length + j, none⟩ = some (.int k (intCell w A (i * ls.length + j))) ∧ (Lit.int k (intCell w A (i * ls.length + j))).wf = true := by
  intro hp
  obtain ⟨b, off, rfl, _, hb, hc⟩ := h hp
  refine ⟨b, off, rfl, hb, fun i hi j k hj => ?_⟩
  obtain ⟨cs, h1, h2⟩ := hc i hi
  obtain ⟨n, h3, h4⟩ := fitAllW_at j k h1 hj
  have h5 := h2 j (List.getElem?_eq_some_iff.1 hj).1
  rw [h3] at h5
  have h6 : intCell w (some ⟨b, off, none⟩) (i * ls.length + j) = n := by
    unfold intCell
    simp only
    rw [← Nat.add_assoc, h5]
    rfl
  rw [h6]
  exact ⟨h5, h4⟩
end Go
end

section
namespace Go.Proofs.YtbcdnbbpkikppaaDoor
open Go.ChangeShapes Go.WideShapes Go.ChangeAt Go.WideMaps Go.WideElems Go.RowKit
open Go.Vec in
set_option maxHeartbeats 2000000 in
theorem tools_long (A : Option Addr) (n cap : Nat) (hn : 60 < n) (k o0 o1 o2 o3 o4 : Int) (w : World) :
    Calls Tryd.prog 7 #[.slice A n cap, .int .i64 k, .agg #[.int .i64 o0, .int .i64 o1, .int .i64 o2, .int .i64 o3, .int .i64 o4]] w fun e w' => e = .returned (.bool true) ∧ Below w.heap.size w w' := by
  have haw := Lib.hid (fun w => awake16 w)
  have hni : 60 < (n : Int) := by omega
  go_enter Tryd.func7, Tryd.ntmps7
  go_wp2_with fail
  refine (haw.out _).mono ?_
  rintro e w1 ⟨rfl, hb1⟩
  have HB := Lib.hid ((show Below w.heap.size w (w.alloc _) by (repeat' (first | with_reducible (first | exact Below.refl _ _ | assumption | refine Below.alloc ?_ ?_ _ | refine below_grew ?_ ?_ _ | refine Below.setCell ?_ ?_ _ | refine Below.drew ?_ | refine below_drewN ?_ _) | omega | (simp; done) | (simp; omega)))).trans (hb1.mono (by simp)))
  clear hb1
  go_wp2_with fail
  go_ret
  exact ⟨rfl, HB.out⟩
open Go.Vec in
theorem tools_any (A : Option Addr) (l : List Int) (n cap : Nat) (hln : l.length = n) (hcap : n ≤ cap) (hA : A = none → cap = 0) (hb : ∀ a ∈ l, -9223372036854775808 ≤ a ∧ a ≤ 9223372036854775807) (k o0 o1 o2 o3 o4 : Int) (w : World) (hx : IntsAt A l w) (hT : WidthW w) :
    Calls Tryd.prog 7 #[.slice A n cap, .int .i64 k, .agg #[.int .i64 o0, .int .i64 o1, .int .i64 o2, .int .i64 o3, .int .i64 o4]] w fun e w' => e = .returned (.bool true) ∧ Below w.heap.size w w' := by
  by_cases h60 : n ≤ 60
  · exact tools_60 A l n cap hln hcap h60 hA k o0 o1 o2 o3 o4 hb w hx hT
  · exact tools_long A n cap (by omega) k o0 o1 o2 o3 o4 w
theorem slice_nil {H : Type} {enc : TypeId × Value → H} {P : Program} {w : World} {base : Nat} {spare : Nat → Bool} {held : Bool} {r : Go.Reach} {b0 : Nat} {t e : TypeId} {v : Value} {dd : DataW H} {p : List MemPlace} (ht : P.underlying t = some (.slice e))
    (hv : Value.okWide P w r b0 t v) (h : DataW.Trod enc P w base spare held t v dd p) : ∀ A len cap, v = .slice A len cap → A = none → len = 0 ∧ cap = 0 := by
  obtain ⟨fuel, hf⟩ := h
  have hne : v.cells.toList = [v] := by
    cases v with
    | agg cs => simp [Value.okWide, ht, Cell.okWide, Cell.ok] at hv
    | _ => rfl
  rw [hne] at hf
  intro A len cap e1 e2
  rcases DataW.trod_slice ht hf with ⟨hcs, _⟩ | ⟨a, len', cap', elems, rest, n, _, hcs, _⟩
  · have e3 : v = .slice none 0 0 := by simpa using hcs
    rw [e3] at e1
    injection e1 with q1 q2 q3
    exact ⟨q2.symm, q3.symm⟩
  · have e3 : v = .slice (some a) len' cap' := by simpa using hcs
    rw [e3] at e1
    injection e1 with q1 q2 q3
    rw [e2] at q1
    cases q1
set_option maxRecDepth 100000 in
theorem frameTools_lifted (os : Os) (started : os.Started) (H : Type) (enc : TypeId × Value → H) :
    ReturnsInHanded {} Tryd.checked os 7 .any (fun w args => (Rows.frameToolsSpec.pre enc Tryd.prog Tryd.f7 [] false w args ∧ laidMetH Tryd.prog Rows.frameToolsRow.laid w) ∧ sizedMet enc Tryd.prog Tryd.f7 (OpenSpec.ofChange Rows.frameToolsSpec) false w args)
      (Rows.frameToolsSpec.post enc Tryd.prog Tryd.f7 false true false false) := by
  refine returnsInHanded_of_change_and (C := Tryd.checked) (X := fun w _ => laidMetH Tryd.prog Rows.frameToolsRow.laid w) (fun _ _ _ hh h => h.of_heap hh) (by kernel_rfl) started (by kernel_rfl) Tryd.func7
    (ChangeSpec.witness_shaped (enc := enc) (C := Tryd.checked) (os := os) (X := fun w _ => laidMetH Tryd.prog Rows.frameToolsRow.laid w) false (World.doorLaid Tryd.prog 400 os) #[.slice none 0 0, .int .i64 0, .agg #[.int .i64 0, .int .i64 0, .int .i64 0, .int .i64 0, .int .i64 0]] 8 rfl (World.shaped_of_RefB (by kernel_rfl) (by kernel_rfl)) (by kernel_rfl) (by kernel_rfl) (by kernel_rfl)
      (laidMetH_of_parts3 (fuel := 8) (laidMet_of_run' 8 (by kernel_rfl) (by kernel_rfl)) (by kernel_rfl) (by kernel_rfl))) ?_
  intro W base args ds gs before hval0 hW _ _ hL _
  have hval : ∀ (j : Nat) t v, Tryd.f7.params[j]? = some t → args[j]? = some v → Value.okWide Tryd.prog W .any base t v := hval0
  have hW' := hW
  obtain ⟨p, q, hA0, hV, rfl, hfz, hnd⟩ := hW
  have hA : DataW.TrodAll enc Tryd.prog W 0 (fun _ => true) true Tryd.f7.params.toList args.toList ds p := hA0
  have hA2 := hA
  rw [Tryd.params7] at hA hval
  obtain ⟨v0, v1, v2, d0, d1, d2, p0, p1, p2, rfl, rfl, hp, h0, h1, h2⟩ := trodAll_three hA
  obtain ⟨rfl, rfl⟩ := trodVars_none hV
  have hsn := slice_nil Tryd.underlying60 (hval 0 60 v0 rfl rfl) h0
  obtain ⟨A, n, cap, rfl, hle, hm, hcs⟩ := open_flat_slice 4 [Leaf.int .i64] Tryd.underlying60 (by kernel_rfl) (by decide) (hval 0 60 v0 rfl rfl) h0
  have hic := int_cells hcs
  obtain ⟨k, rfl, rfl, hp1, wk⟩ := open_int Tryd.underlying3 (hval 1 3 v1 rfl rfl) h1
  obtain ⟨cs, rfl, hfit⟩ := open_flat 3 [.int .i64, .int .i64, .int .i64, .int .i64, .int .i64] (by kernel_rfl) (by kernel_rfl) (hval 2 29 v2 rfl rfl) h2
  obtain ⟨o0, cs1, rfl, w0, hfit⟩ := fitAllW_int hfit
  obtain ⟨o1, cs2, rfl, w1, hfit⟩ := fitAllW_int hfit
  obtain ⟨o2, cs3, rfl, w2, hfit⟩ := fitAllW_int hfit
  obtain ⟨o3, cs4, rfl, w3, hfit⟩ := fitAllW_int hfit
  obtain ⟨o4, cs5, rfl, w4, hfit⟩ := fitAllW_int hfit
  obtain rfl := fitAllW_nil hfit
  rw [MakeChecks.laidMetH_plain _ _ _ (by kernel_rfl)] at hL
  have hT : WidthW W := widths_of hL
  have hcell : ∀ i, i < n → 0 < n → ∃ b off, A = some ⟨b, off, none⟩ ∧ b < W.heap.size ∧ W.cell? ⟨b, off + i, none⟩ = some (.int .i64 (intCell W A i)) ∧ (Lit.int .i64 (intCell W A i)).wf = true := fun i hi hp => by
    obtain ⟨b, off, hA, hb, hc⟩ := hic hp
    obtain ⟨h5, h6⟩ := hc i hi 0 .i64 rfl
    rw [show off + i * [Leaf.int IntKind.i64].length + 0 = off + i from by simp, show i * [Leaf.int IntKind.i64].length + 0 = i from by simp] at h5
    rw [show i * [Leaf.int IntKind.i64].length + 0 = i from by simp] at h6
    exact ⟨b, off, hA, hb, h5, h6⟩
  obtain ⟨l, hl⟩ : ∃ l, l = (List.range n).map (fun i => intCell W A i) := ⟨_, rfl⟩
  have hln : l.length = n := by rw [hl]; simp
  have hget : ∀ i, i < n → l.getD i 0 = intCell W A i := fun i hi => by rw [hl, List.getD_eq_getElem?_getD, List.getElem?_map, List.getElem?_range hi]; rfl
  have hx : IntsAt A l W := fun hp => by
    rw [hln] at hp
    obtain ⟨b, off, hA, hb, -, -⟩ := hcell 0 hp hp
    refine ⟨b, off, hA, hb, fun i hi => ?_⟩
    rw [hln] at hi
    obtain ⟨b', off', hA', -, h5, -⟩ := hcell i hi hp
    rw [hA] at hA'
    simp only [Option.some.injEq, Addr.mk.injEq, and_true] at hA'
    rw [hA'.1, hA'.2, hget i hi]
    exact h5
  have hb : ∀ a ∈ l, -9223372036854775808 ≤ a ∧ a ≤ 9223372036854775807 := fun a ha => by
    rw [hl] at ha
    obtain ⟨i, hi, rfl⟩ := List.mem_map.1 ha
    have hi' : i < n := by simpa using hi
    obtain ⟨b, off, -, -, -, h6⟩ := hcell i hi' (by omega)
    exact bounds_i64 h6
  simp only [List.append_nil] at hW'
  refine (tools_any A l n cap hln hle (fun e => (hsn A n cap rfl e).2) hb k o0 o1 o2 o3 o4 W hx hT).mono fun e W' ⟨he, hb⟩ => ?_
  subst he
  have e1 : Rows.frameToolsSpec.fn H ([d0, .lit (.int .i64 k), d2] ++ []) = { results := [.lit (.bool true)], args := [d0, .lit (.int .i64 k), d2] } := by simp [Rows.frameToolsSpec]
  refine ⟨_, rfl, _, _, _, [], p, [], hW', ?_, ?_, ?_, hb.frame _, fun h => by cases h⟩
  · rw [e1]; exact trodAll_mk1 (shut_bool Tryd.underlying4 _)
  · rw [e1]; exact trodAll_below (by kernel_rfl) hb _ _ _ _ (by kernel_rfl) hA2 (fun x hx => by simpa using hW'.lt x (by simpa using hx))
  · rw [e1]; rfl
theorem frameTools_holds : Rows.FrameToolsSaid :=
  OpenClaim.holds_of_wide 7 Tryd.f7 rfl rfl rfl rfl rfl rfl rfl ⟨rfl, rfl, rfl, rfl, rfl⟩ rfl rfl rfl rfl rfl (by kernel_rfl) Tryd.func7 (by kernel_rfl)
    (of_decide_eq_true (by kernel_rfl)) (by unfold Func.isWrapper; rw [if_neg (of_decide_eq_false (by kernel_rfl))]; exact ⟨rfl, rfl⟩)
    (fun os started H enc _ => frameTools_lifted os started H enc)
theorem frameTools_card : Rows.FrameToolsCardSaid :=
  Claim7.holds_tied_plain_at .later [] [.data, .data] true (true, "6fd3cef4739abb337087ac194f61d7bdfcbfdad02058d565ba37ec2937ba1477") false
    frameTools_holds (fun _ h => by cases h) (by kernel_rfl) (fun _ h => by cases h) frameTools_row_tie rfl ⟨rfl, rfl⟩ (by kernel_rfl) rfl
    (fun f fn hf hfn => by
      obtain rfl : f = 7 := Option.some.inj ((show Tryd.prog.funcNamed "spinet/spinetlaw16.FrameTools" = some 7 by kernel_rfl).symm.trans hf) |>.symm
      obtain rfl : fn = Tryd.f7 := (Option.some.inj (Tryd.func7.symm.trans hfn)).symm
      exact ⟨by kernel_rfl, fun j t ht => by
        rw [Tryd.params7] at ht
        have hm : t ∈ [60, 3, 29] := by simpa using Array.mem_of_getElem? ht
        have hall : ([60, 3, 29].all fun u => !Tryd.prog.wantsStandIn u) = true := by kernel_rfl
        exact (show Tryd.prog.wantsStandIn t = false by simpa using List.all_eq_true.1 hall t (by simpa using hm))⟩)
    (by kernel_rfl)
end Go.Proofs.YtbcdnbbpkikppaaDoor
end

