/-
  slices.Clone of bytes, and reader.New.
  (One text out of these parts: RdrT, RdrN.)
-/
import Derived.Test.YtbcdnbbpkikppaaDoorFgua
import Derived.Test.YtbcdnbbpkikppaaDoorWWords
import Derived.WalkSpells
section
namespace Go.Proofs.YtbcdnbbpkikppaaDoor
open Go.RowKit Go.BigFrame
set_option linter.unusedSimpArgs false
set_option linter.unusedVariables false
theorem norm_taken (c : RC) (s : RS) : s.taken ≤ (normS c s).taken ∧ (normS c s).taken ≤ s.taken + 1 := by
  unfold normS; split <;> simp
/-- It comes to E. -/
structure Reach (c : RC) (E s : RS) : Prop where
  eq : normS c (normS c s) = E
  r0 : 16 ≤ s.rng
  r1 : s.rng ≤ 16777216
  v0 : 0 ≤ s.val
  v1 : s.val < s.rng
theorem Reach.step {c : RC} {E s : RS} (h : Reach c E s) (hE : RsOk E) (hb : ∀ i, 0 ≤ c.byte i ∧ c.byte i ≤ 255) (hr : s.rng ≤ 65536) : Reach c E (normS c s) := by
  have e : normS c s = { taken := s.taken + 1, raws := s.raws, rng := s.rng * 256, val := s.val * 256 + c.byte s.taken } := by unfold normS; rw [if_pos hr]
  have hbb := hb s.taken
  have h0 := h.r0
  have h2 := h.v0
  have h3 := h.v1
  refine ⟨?_, by rw [e]; simp only; omega, by rw [e]; simp only; omega, by rw [e]; simp only; omega, by rw [e]; simp only; omega⟩
  rw [h.eq]
  have := hE.r0
  unfold normS
  rw [if_neg (by omega)]
theorem Reach.done {c : RC} {E s : RS} (h : Reach c E s) (hr : 65536 < s.rng) : s = E := by
  have e : normS c s = s := by unfold normS; rw [if_neg (by omega)]
  have := h.eq
  rw [e, e] at this
  exact this
theorem Reach.taken {c : RC} {E s : RS} (h : Reach c E s) : s.taken ≤ E.taken := by
  rw [← h.eq]
  exact Nat.le_trans (norm_taken c s).1 (norm_taken c _).1
def rngAt (rb : Nat) (w : World) : Nat := match w.cell? ⟨rb, 3, none⟩ with
  | some (.int _ r) => (65537 - r).toNat
  | _ => 0
theorem rngAt_of {c : RC} {s : RS} {w : World} (h : RdAt c s w) : rngAt c.rb w = (65537 - s.rng).toNat := by
  unfold rngAt; rw [h.c3]
set_option maxHeartbeats 4000000 in
set_option maxRecDepth 100000 in
theorem rdTake (c : RC) (s : RS) (hok : RsOk s) (f e t : Int) (w : World) (h : RdAt c s w) (ht : s.taken ≤ 900000) (hn : c.n ≤ 1000000) :
    Calls Tryd.prog 140 #[.pointer (some ⟨c.rb, 0, none⟩), .int .i64 f, .int .i64 e, .int .i64 t] w fun e' w' => e' = .returned (.tuple #[]) ∧ RdAt c (takeF c s f e t) w' ∧ Chg [c.rb] w w' := by
  have hri := Lib.hid (fun w => rdRight t w)
  have hb := fun i => RC.byte_bd h i
  have H := Lib.hid h
  by_cases hin : (1 ≤ t ∧ t ≤ 4096) ∧ 0 ≤ f ∧ f < e ∧ e ≤ t
  · have HT := Lib.hid (show takeF c s f e t = normS c (normS c (cutS s f e t)) by unfold takeF; rw [if_pos hin])
    obtain ⟨ht1, hf0, hfe, het⟩ := hin
    have htk := (norm_taken c (normS c (cutS s f e t))).2
    have htk2 := (norm_taken c (cutS s f e t)).2
    have HOKE := Lib.hid (takeF_ok c s hb hok f e t)
    obtain ⟨q1, q2, q3, q4, q5, q6, q7, q8⟩ := cut_bd s hok f e t ht1 hf0 hfe het
    rw [decide_eq_true ht1] at hri
    obtain ⟨t1, t2⟩ := ht1
    obtain ⟨p1, p2, -, -, -⟩ := part_bd s.rng t hok.r0 hok.r1 t1 t2
    have HB := Lib.hid hb
    have hRE := Lib.hid (show Reach c (takeF c s f e t) (cutS s f e t) from ⟨HT.out.symm, q1, q2, q3, q4⟩)
    have hEt : (takeF c s f e t).taken ≤ 900002 := by rw [HT.out]; have : (cutS s f e t).taken = s.taken := rfl; omega
    have HCUT := Lib.hid (show cutS s f e t = { taken := s.taken, raws := s.raws, rng := (if e = t then s.rng - f * (s.rng / t) else (e - f) * (s.rng / t)), val := min (s.val - min (f * (s.rng / t)) s.val) ((if e = t then s.rng - f * (s.rng / t) else (e - f) * (s.rng / t)) - 1) } from rfl)
    obtain ⟨r0, r1, v0, v1⟩ := hok
    have hq1 : s.rng.tdiv t = s.rng / t := Int.tdiv_eq_ediv_of_nonneg (by omega)
    have hcr : (cutS s f e t).rng = (if e = t then s.rng - f * (s.rng / t) else (e - f) * (s.rng / t)) := rfl
    rw [hcr] at q1 q2
    have HE := Lib.hid (show takeF c s f e t = takeF c s f e t from rfl)
    obtain ⟨E, hE⟩ : ∃ E, takeF c s f e t = E := ⟨_, rfl⟩
    rw [hE] at hRE HOKE hEt ⊢
    clear h hb ht HT HE hE htk htk2 q3 q4 hcr
    go_enter Tryd.func140, Tryd.ntmps140
    go_wp2_with fail
    refine (hri.out _).mono ?_
    rintro e1 w1 ⟨rfl, hb1⟩
    go_upto_region 1 with fail
    refine cut_world (fun W => RdAt c s W ∧ Chg [c.rb] w W) ⟨H.out.keep0 hb1, Chg.of_below hb1⟩ ?_
    clear hb1 H
    rintro V ⟨hR, hC⟩
    have HR := Lib.hid hR
    have HC := Lib.hid hC
    have c3 := hR.c3
    have f3 := hR.fz 3
    have hl := hR.lt
    clear hR hC
    have ht0 : ¬ t = 0 := by omega
    obtain ⟨r, hr⟩ : ∃ r, s.rng = r := ⟨_, rfl⟩
    obtain ⟨v, hv⟩ : ∃ v, s.val = v := ⟨_, rfl⟩
    rw [hr] at c3 r0 r1 v1 hq1 p1 p2 q1 q2 q5 q6 q7 q8 HCUT
    rw [hv] at v0 v1 HCUT
    have HRR := Lib.hid hr
    have HVV := Lib.hid hv
    clear hr hv
    generalize r / t = p at *
    obtain ⟨fp, hfp⟩ : ∃ x, f * p = x := ⟨_, rfl⟩
    obtain ⟨ep, hep⟩ : ∃ x, (e - f) * p = x := ⟨_, rfl⟩
    rw [hfp] at q5 q6 q1 q2 HCUT
    rw [hep] at q7 q8 q1 q2 HCUT
    by_cases het2 : e = t
    · subst het2
      rw [if_pos rfl] at q1 q2 HCUT
      go_upto_region 6 with fail
      refine cut_world (fun W => RdAt c { taken := s.taken, raws := s.raws, rng := r - fp, val := s.val } W ∧ Chg [c.rb] w W) ⟨HR.out.set3 (r - fp), HC.out.setCell _ (by simp)⟩ ?_
      have m2 : v ≤ 16777216 := by omega
      clear HR HC c3 f3 hl hq1 p1 p2 r0 r1 v1 ht0 hfp hep
      rintro V1 ⟨hR, hC⟩
      have HR := Lib.hid hR
      have HC := Lib.hid hC
      have c4 := hR.c4
      have hl := hR.lt
      simp only [HVV.out] at c4
      clear hR hC
      obtain ⟨R, hR1⟩ : ∃ x, r - fp = x := ⟨_, rfl⟩
      rw [hR1] at q1 q2 HCUT HR
      clear hR1
      have m0 : 0 ≤ v - min fp v := by omega
      have m1 : v - min fp v ≤ v := by omega
      refine wp_region_inv [] (fun W => Below V1.heap.size V1 W) (fun W W' => Below W.heap.size W W') 13 (by kernel_rfl) (by kernel_rfl) (by kernel_rfl) ((Below.refl _ _).drew) (fun W W' h h' => h.trans (h'.mono h.size)) (fun _ _ h => h.size) ?_
      simp only [List.take_succ_cons, List.take_zero, List.drop_succ_cons, List.drop_zero]
      refine wpInv_det (by kernel_rfl) (by kernel_rfl) ?_
      apply Exists.intro
      refine ⟨?_, ?_, ?_⟩
      · intro U W hC hH
        have hc1 := (bcell hC).1
        have hf1 := (bcell hC).2
        simp only [HypsU, predsOf, Region.binds, List.filterMap_cons, List.filterMap_nil, if_true, List.nil_append, List.cons_append, List.getD_cons_zero, List.getD_cons_succ] at hH
        simp only [fillPuts, Act.put, List.setIfInBounds_toArray, List.set_cons_zero, List.set_cons_succ, Nat.reduceAdd]
        go_wp2_with fail
        refine ⟨rfl, rfl, by (repeat' (first | (with_reducible exact Below.refl _ _) | (with_reducible assumption) | (with_reducible refine Below.alloc ?_ ?_ _) | (with_reducible refine below_grew ?_ ?_ _) | (with_reducible refine Below.setCell ?_ ?_ _) | (with_reducible refine Below.drew ?_) | (with_reducible refine below_drewN ?_ _) | omega | (simp; done) | (simp; omega))), ?_⟩
        conv => lhs; whnf
        try rfl
      · exact fun _ => rfl
      simp only [List.nil_append, List.cons_append, Nat.reduceAdd]
      refine wpInv_det (by kernel_rfl) (by kernel_rfl) ?_
      apply Exists.intro
      refine ⟨?_, ?_, ?_⟩
      · intro U W hC hH
        have hc1 := (bcell hC).1
        have hf1 := (bcell hC).2
        simp only [HypsU, predsOf, Region.binds, List.filterMap_cons, List.filterMap_nil, if_true, List.nil_append, List.cons_append, List.getD_cons_zero, List.getD_cons_succ] at hH
        simp only [fillPuts, Act.put, List.setIfInBounds_toArray, List.set_cons_zero, List.set_cons_succ, Nat.reduceAdd]
        go_wp2_with fail
        refine ⟨rfl, rfl, by (repeat' (first | (with_reducible exact Below.refl _ _) | (with_reducible assumption) | (with_reducible refine Below.alloc ?_ ?_ _) | (with_reducible refine below_grew ?_ ?_ _) | (with_reducible refine Below.setCell ?_ ?_ _) | (with_reducible refine Below.drew ?_) | (with_reducible refine below_drewN ?_ _) | omega | (simp; done) | (simp; omega))), ?_⟩
        conv => lhs; whnf
        try rfl
      · exact fun _ => rfl
      simp only [List.nil_append, List.cons_append, Nat.reduceAdd]
      refine wpInv_det (by kernel_rfl) (by kernel_rfl) ?_
      apply Exists.intro
      refine ⟨?_, ?_, ?_⟩
      · intro U W hC hH
        have hc1 := (bcell hC).1
        have hf1 := (bcell hC).2
        simp only [HypsU, predsOf, Region.binds, List.filterMap_cons, List.filterMap_nil, if_true, List.nil_append, List.cons_append, List.getD_cons_zero, List.getD_cons_succ] at hH
        simp only [fillPuts, Act.put, List.setIfInBounds_toArray, List.set_cons_zero, List.set_cons_succ, Nat.reduceAdd]
        go_wp2_with fail
        refine ⟨rfl, rfl, by (repeat' (first | (with_reducible exact Below.refl _ _) | (with_reducible assumption) | (with_reducible refine Below.alloc ?_ ?_ _) | (with_reducible refine below_grew ?_ ?_ _) | (with_reducible refine Below.setCell ?_ ?_ _) | (with_reducible refine Below.drew ?_) | (with_reducible refine below_drewN ?_ _) | omega | (simp; done) | (simp; omega))), ?_⟩
        conv => lhs; whnf
        try rfl
      · exact fun _ => rfl
      simp only [List.nil_append, List.cons_append, Nat.reduceAdd]
      refine wpInv_det (by kernel_rfl) (by kernel_rfl) ?_
      apply Exists.intro
      refine ⟨?_, ?_, ?_⟩
      · intro U W hC hH
        have hc1 := (bcell hC).1
        have hf1 := (bcell hC).2
        simp only [HypsU, predsOf, Region.binds, List.filterMap_cons, List.filterMap_nil, if_true, List.nil_append, List.cons_append, List.getD_cons_zero, List.getD_cons_succ] at hH
        simp only [fillPuts, Act.put, List.setIfInBounds_toArray, List.set_cons_zero, List.set_cons_succ, Nat.reduceAdd]
        go_wp2_with fail
        refine ⟨rfl, rfl, by (repeat' (first | (with_reducible exact Below.refl _ _) | (with_reducible assumption) | (with_reducible refine Below.alloc ?_ ?_ _) | (with_reducible refine below_grew ?_ ?_ _) | (with_reducible refine Below.setCell ?_ ?_ _) | (with_reducible refine Below.drew ?_) | (with_reducible refine below_drewN ?_ _) | omega | (simp; done) | (simp; omega))), ?_⟩
        conv => lhs; whnf
        try rfl
      · exact fun _ => rfl
      simp only [List.nil_append, List.cons_append, Nat.reduceAdd]
      refine wpInv_det (by kernel_rfl) (by kernel_rfl) ?_
      apply Exists.intro
      refine ⟨?_, ?_, ?_⟩
      · intro U W hC hH
        have hc1 := (bcell hC).1
        have hf1 := (bcell hC).2
        simp only [HypsU, predsOf, Region.binds, List.filterMap_cons, List.filterMap_nil, if_true, List.nil_append, List.cons_append, List.getD_cons_zero, List.getD_cons_succ] at hH
        simp only [fillPuts, Act.put, List.setIfInBounds_toArray, List.set_cons_zero, List.set_cons_succ, Nat.reduceAdd]
        go_wp2_with fail
        refine ⟨rfl, rfl, by (repeat' (first | (with_reducible exact Below.refl _ _) | (with_reducible assumption) | (with_reducible refine Below.alloc ?_ ?_ _) | (with_reducible refine below_grew ?_ ?_ _) | (with_reducible refine Below.setCell ?_ ?_ _) | (with_reducible refine Below.drew ?_) | (with_reducible refine below_drewN ?_ _) | omega | (simp; done) | (simp; omega))), ?_⟩
        conv => lhs; whnf
        try rfl
      · exact fun _ => rfl
      simp only [List.nil_append, List.cons_append, Nat.reduceAdd]
      refine wpInv_det (by kernel_rfl) (by kernel_rfl) ?_
      apply Exists.intro
      refine ⟨?_, ?_, ?_⟩
      · intro U W hC hH
        have hc1 := (bcell hC).1
        have hf1 := (bcell hC).2
        simp only [HypsU, predsOf, Region.binds, List.filterMap_cons, List.filterMap_nil, if_true, List.nil_append, List.cons_append, List.getD_cons_zero, List.getD_cons_succ] at hH
        simp only [fillPuts, Act.put, List.setIfInBounds_toArray, List.set_cons_zero, List.set_cons_succ, Nat.reduceAdd]
        go_wp2_with fail
        refine ⟨rfl, rfl, by (repeat' (first | (with_reducible exact Below.refl _ _) | (with_reducible assumption) | (with_reducible refine Below.alloc ?_ ?_ _) | (with_reducible refine below_grew ?_ ?_ _) | (with_reducible refine Below.setCell ?_ ?_ _) | (with_reducible refine Below.drew ?_) | (with_reducible refine below_drewN ?_ _) | omega | (simp; done) | (simp; omega))), ?_⟩
        conv => lhs; whnf
        try rfl
      · exact fun _ => rfl
      simp only [List.nil_append, List.cons_append, Nat.reduceAdd]
      refine wpInv_det (by kernel_rfl) (by kernel_rfl) ?_
      apply Exists.intro
      refine ⟨?_, ?_, ?_⟩
      · intro U W hC hH
        have hc1 := (bcell hC).1
        have hf1 := (bcell hC).2
        simp only [HypsU, predsOf, Region.binds, List.filterMap_cons, List.filterMap_nil, if_true, List.nil_append, List.cons_append, List.getD_cons_zero, List.getD_cons_succ] at hH
        simp only [fillPuts, Act.put, List.setIfInBounds_toArray, List.set_cons_zero, List.set_cons_succ, Nat.reduceAdd]
        go_wp2_with fail
        refine ⟨rfl, rfl, by (repeat' (first | (with_reducible exact Below.refl _ _) | (with_reducible assumption) | (with_reducible refine Below.alloc ?_ ?_ _) | (with_reducible refine below_grew ?_ ?_ _) | (with_reducible refine Below.setCell ?_ ?_ _) | (with_reducible refine Below.drew ?_) | (with_reducible refine below_drewN ?_ _) | omega | (simp; done) | (simp; omega))), ?_⟩
        conv => lhs; whnf
        try rfl
      · exact fun _ => rfl
      simp only [List.nil_append, List.cons_append, Nat.reduceAdd]
      refine wpInv_det (by kernel_rfl) (by kernel_rfl) ?_
      apply Exists.intro
      refine ⟨?_, ?_, ?_⟩
      · intro U W hC hH
        have hc1 := (bcell hC).1
        have hf1 := (bcell hC).2
        simp only [HypsU, predsOf, Region.binds, List.filterMap_cons, List.filterMap_nil, if_true, List.nil_append, List.cons_append, List.getD_cons_zero, List.getD_cons_succ] at hH
        simp only [fillPuts, Act.put, List.setIfInBounds_toArray, List.set_cons_zero, List.set_cons_succ, Nat.reduceAdd]
        go_wp2_with fail
        refine ⟨rfl, rfl, by (repeat' (first | (with_reducible exact Below.refl _ _) | (with_reducible assumption) | (with_reducible refine Below.alloc ?_ ?_ _) | (with_reducible refine below_grew ?_ ?_ _) | (with_reducible refine Below.setCell ?_ ?_ _) | (with_reducible refine Below.drew ?_) | (with_reducible refine below_drewN ?_ _) | omega | (simp; done) | (simp; omega))), ?_⟩
        conv => lhs; whnf
        try rfl
      · exact fun _ => rfl
      simp only [List.nil_append, List.cons_append, Nat.reduceAdd]
      refine wpInv_det (by kernel_rfl) (by kernel_rfl) ?_
      apply Exists.intro
      refine ⟨?_, ?_, ?_⟩
      · intro U W hC hH
        have hc1 := (bcell hC).1
        have hf1 := (bcell hC).2
        simp only [HypsU, predsOf, Region.binds, List.filterMap_cons, List.filterMap_nil, if_true, List.nil_append, List.cons_append, List.getD_cons_zero, List.getD_cons_succ] at hH
        simp only [fillPuts, Act.put, List.setIfInBounds_toArray, List.set_cons_zero, List.set_cons_succ, Nat.reduceAdd]
        go_wp2_with fail
        refine ⟨rfl, rfl, by (repeat' (first | (with_reducible exact Below.refl _ _) | (with_reducible assumption) | (with_reducible refine Below.alloc ?_ ?_ _) | (with_reducible refine below_grew ?_ ?_ _) | (with_reducible refine Below.setCell ?_ ?_ _) | (with_reducible refine Below.drew ?_) | (with_reducible refine below_drewN ?_ _) | omega | (simp; done) | (simp; omega))), ?_⟩
        conv => lhs; whnf
        try rfl
      · exact fun _ => rfl
      simp only [List.nil_append, List.cons_append, Nat.reduceAdd]
      refine wpInv_det (by kernel_rfl) (by kernel_rfl) ?_
      apply Exists.intro
      refine ⟨?_, ?_, ?_⟩
      · intro U W hC hH
        have hc1 := (bcell hC).1
        have hf1 := (bcell hC).2
        simp only [HypsU, predsOf, Region.binds, List.filterMap_cons, List.filterMap_nil, if_true, List.nil_append, List.cons_append, List.getD_cons_zero, List.getD_cons_succ] at hH
        simp only [fillPuts, Act.put, List.setIfInBounds_toArray, List.set_cons_zero, List.set_cons_succ, Nat.reduceAdd]
        go_wp2_with fail
        refine ⟨rfl, rfl, by (repeat' (first | (with_reducible exact Below.refl _ _) | (with_reducible assumption) | (with_reducible refine Below.alloc ?_ ?_ _) | (with_reducible refine below_grew ?_ ?_ _) | (with_reducible refine Below.setCell ?_ ?_ _) | (with_reducible refine Below.drew ?_) | (with_reducible refine below_drewN ?_ _) | omega | (simp; done) | (simp; omega))), ?_⟩
        conv => lhs; whnf
        try rfl
      · exact fun _ => rfl
      simp only [List.nil_append, List.cons_append, Nat.reduceAdd]
      refine wpInv_det (by kernel_rfl) (by kernel_rfl) ?_
      apply Exists.intro
      refine ⟨?_, ?_, ?_⟩
      · intro U W hC hH
        have hc1 := (bcell hC).1
        have hf1 := (bcell hC).2
        simp only [HypsU, predsOf, Region.binds, List.filterMap_cons, List.filterMap_nil, if_true, List.nil_append, List.cons_append, List.getD_cons_zero, List.getD_cons_succ] at hH
        simp only [fillPuts, Act.put, List.setIfInBounds_toArray, List.set_cons_zero, List.set_cons_succ, Nat.reduceAdd]
        go_wp2_with fail
        refine ⟨rfl, rfl, by (repeat' (first | (with_reducible exact Below.refl _ _) | (with_reducible assumption) | (with_reducible refine Below.alloc ?_ ?_ _) | (with_reducible refine below_grew ?_ ?_ _) | (with_reducible refine Below.setCell ?_ ?_ _) | (with_reducible refine Below.drew ?_) | (with_reducible refine below_drewN ?_ _) | omega | (simp; done) | (simp; omega))), ?_⟩
        conv => lhs; whnf
        try rfl
      · exact fun _ => rfl
      simp only [List.nil_append, List.cons_append, Nat.reduceAdd]
      refine wpInv_det (by kernel_rfl) (by kernel_rfl) ?_
      apply Exists.intro
      refine ⟨?_, ?_, ?_⟩
      · intro U W hC hH
        have hc1 := (bcell hC).1
        have hf1 := (bcell hC).2
        simp only [HypsU, predsOf, Region.binds, List.filterMap_cons, List.filterMap_nil, if_true, List.nil_append, List.cons_append, List.getD_cons_zero, List.getD_cons_succ] at hH
        simp only [fillPuts, Act.put, List.setIfInBounds_toArray, List.set_cons_zero, List.set_cons_succ, Nat.reduceAdd]
        go_wp2_with fail
        refine ⟨rfl, rfl, by (repeat' (first | (with_reducible exact Below.refl _ _) | (with_reducible assumption) | (with_reducible refine Below.alloc ?_ ?_ _) | (with_reducible refine below_grew ?_ ?_ _) | (with_reducible refine Below.setCell ?_ ?_ _) | (with_reducible refine Below.drew ?_) | (with_reducible refine below_drewN ?_ _) | omega | (simp; done) | (simp; omega))), ?_⟩
        conv => lhs; whnf
        try rfl
      · exact fun _ => rfl
      simp only [List.nil_append, List.cons_append, Nat.reduceAdd]
      refine wpInv_det (by kernel_rfl) (by kernel_rfl) ?_
      apply Exists.intro
      refine ⟨?_, ?_, ?_⟩
      · intro U W hC hH
        have hc1 := (bcell hC).1
        have hf1 := (bcell hC).2
        simp only [HypsU, predsOf, Region.binds, List.filterMap_cons, List.filterMap_nil, if_true, List.nil_append, List.cons_append, List.getD_cons_zero, List.getD_cons_succ] at hH
        simp only [fillPuts, Act.put, List.setIfInBounds_toArray, List.set_cons_zero, List.set_cons_succ, Nat.reduceAdd]
        go_wp2_with fail
        refine ⟨rfl, rfl, by (repeat' (first | (with_reducible exact Below.refl _ _) | (with_reducible assumption) | (with_reducible refine Below.alloc ?_ ?_ _) | (with_reducible refine below_grew ?_ ?_ _) | (with_reducible refine Below.setCell ?_ ?_ _) | (with_reducible refine Below.drew ?_) | (with_reducible refine below_drewN ?_ _) | omega | (simp; done) | (simp; omega))), ?_⟩
        conv => lhs; whnf
        try rfl
      · exact fun _ => rfl
      simp only [List.nil_append, List.cons_append, Nat.reduceAdd]
      simp only [List.nil_append, List.cons_append, Nat.reduceAdd, fillPuts, Act.put, List.setIfInBounds_toArray, List.set_cons_zero, List.set_cons_succ]
      rintro U W hC ⟨h0, h1, h2, h3, h4, h5, h6, h7, h8, h9, h10, h11, h12, -⟩ -
      simp only [h0, h1, h2, h3, h4, h5, h6, h7, h8, h9, h10, h11, h12]
      have hRW := HR.out.keep0 hC
      have HRW := Lib.hid hRW
      have HCW := Lib.hid (HC.out.below hC)
      have d4 := hRW.c4
      have g4 := hRW.fz 4
      have dl := hRW.lt
      clear h0 h1 h2 h3 h4 h5 h6 h7 h8 h9 h10 h11 h12 hC hRW HR HC c4 hl
      go_upto_region 7 with fail
      refine cut_world (fun W => RdAt c { taken := s.taken, raws := s.raws, rng := R, val := v - min fp v } W ∧ Chg [c.rb] w W) ⟨HRW.out.set4 (v - min fp v), HCW.out.setCell _ (by simp)⟩ ?_
      clear HRW HCW d4 g4 dl
      rintro V2 ⟨hR, hC⟩
      have HR := Lib.hid hR
      have HC := Lib.hid hC
      have c3 := hR.c3
      have c4 := hR.c4
      have hl := hR.lt
      simp only at c3 c4
      clear hR hC
      obtain ⟨v2, hv2⟩ : ∃ x, v - min fp v = x := ⟨_, rfl⟩
      rw [hv2] at m0 m1 HCUT HR c4
      clear hv2
      have k0 : 0 ≤ R - 1 := by omega
      have k1 : R - 1 ≤ 16777216 := by omega
      have k2 : v2 ≤ 16777216 := by omega
      have k3 : 0 ≤ min v2 (R - 1) := by omega
      have k4 : min v2 (R - 1) ≤ 16777216 := by omega
      refine wp_region_inv [] (fun W => Below V2.heap.size V2 W) (fun W W' => Below W.heap.size W W') 13 (by kernel_rfl) (by kernel_rfl) (by kernel_rfl) ((Below.refl _ _).drew) (fun W W' h h' => h.trans (h'.mono h.size)) (fun _ _ h => h.size) ?_
      simp only [List.take_succ_cons, List.take_zero, List.drop_succ_cons, List.drop_zero]
      refine wpInv_det (by kernel_rfl) (by kernel_rfl) ?_
      apply Exists.intro
      refine ⟨?_, ?_, ?_⟩
      · intro U W hC hH
        have hc1 := (bcell hC).1
        have hf1 := (bcell hC).2
        simp only [HypsU, predsOf, Region.binds, List.filterMap_cons, List.filterMap_nil, if_true, List.nil_append, List.cons_append, List.getD_cons_zero, List.getD_cons_succ] at hH
        simp only [fillPuts, Act.put, List.setIfInBounds_toArray, List.set_cons_zero, List.set_cons_succ, Nat.reduceAdd]
        go_wp2_with fail
        refine ⟨rfl, rfl, by (repeat' (first | (with_reducible exact Below.refl _ _) | (with_reducible assumption) | (with_reducible refine Below.alloc ?_ ?_ _) | (with_reducible refine below_grew ?_ ?_ _) | (with_reducible refine Below.setCell ?_ ?_ _) | (with_reducible refine Below.drew ?_) | (with_reducible refine below_drewN ?_ _) | omega | (simp; done) | (simp; omega))), ?_⟩
        conv => lhs; whnf
        try rfl
      · exact fun _ => rfl
      simp only [List.nil_append, List.cons_append, Nat.reduceAdd]
      refine wpInv_det (by kernel_rfl) (by kernel_rfl) ?_
      apply Exists.intro
      refine ⟨?_, ?_, ?_⟩
      · intro U W hC hH
        have hc1 := (bcell hC).1
        have hf1 := (bcell hC).2
        simp only [HypsU, predsOf, Region.binds, List.filterMap_cons, List.filterMap_nil, if_true, List.nil_append, List.cons_append, List.getD_cons_zero, List.getD_cons_succ] at hH
        simp only [fillPuts, Act.put, List.setIfInBounds_toArray, List.set_cons_zero, List.set_cons_succ, Nat.reduceAdd]
        go_wp2_with fail
        refine ⟨rfl, rfl, by (repeat' (first | (with_reducible exact Below.refl _ _) | (with_reducible assumption) | (with_reducible refine Below.alloc ?_ ?_ _) | (with_reducible refine below_grew ?_ ?_ _) | (with_reducible refine Below.setCell ?_ ?_ _) | (with_reducible refine Below.drew ?_) | (with_reducible refine below_drewN ?_ _) | omega | (simp; done) | (simp; omega))), ?_⟩
        conv => lhs; whnf
        try rfl
      · exact fun _ => rfl
      simp only [List.nil_append, List.cons_append, Nat.reduceAdd]
      refine wpInv_det (by kernel_rfl) (by kernel_rfl) ?_
      apply Exists.intro
      refine ⟨?_, ?_, ?_⟩
      · intro U W hC hH
        have hc1 := (bcell hC).1
        have hf1 := (bcell hC).2
        simp only [HypsU, predsOf, Region.binds, List.filterMap_cons, List.filterMap_nil, if_true, List.nil_append, List.cons_append, List.getD_cons_zero, List.getD_cons_succ] at hH
        simp only [fillPuts, Act.put, List.setIfInBounds_toArray, List.set_cons_zero, List.set_cons_succ, Nat.reduceAdd]
        go_wp2_with fail
        refine ⟨rfl, rfl, by (repeat' (first | (with_reducible exact Below.refl _ _) | (with_reducible assumption) | (with_reducible refine Below.alloc ?_ ?_ _) | (with_reducible refine below_grew ?_ ?_ _) | (with_reducible refine Below.setCell ?_ ?_ _) | (with_reducible refine Below.drew ?_) | (with_reducible refine below_drewN ?_ _) | omega | (simp; done) | (simp; omega))), ?_⟩
        conv => lhs; whnf
        try rfl
      · exact fun _ => rfl
      simp only [List.nil_append, List.cons_append, Nat.reduceAdd]
      refine wpInv_det (by kernel_rfl) (by kernel_rfl) ?_
      apply Exists.intro
      refine ⟨?_, ?_, ?_⟩
      · intro U W hC hH
        have hc1 := (bcell hC).1
        have hf1 := (bcell hC).2
        simp only [HypsU, predsOf, Region.binds, List.filterMap_cons, List.filterMap_nil, if_true, List.nil_append, List.cons_append, List.getD_cons_zero, List.getD_cons_succ] at hH
        simp only [fillPuts, Act.put, List.setIfInBounds_toArray, List.set_cons_zero, List.set_cons_succ, Nat.reduceAdd]
        go_wp2_with fail
        refine ⟨rfl, rfl, by (repeat' (first | (with_reducible exact Below.refl _ _) | (with_reducible assumption) | (with_reducible refine Below.alloc ?_ ?_ _) | (with_reducible refine below_grew ?_ ?_ _) | (with_reducible refine Below.setCell ?_ ?_ _) | (with_reducible refine Below.drew ?_) | (with_reducible refine below_drewN ?_ _) | omega | (simp; done) | (simp; omega))), ?_⟩
        conv => lhs; whnf
        try rfl
      · exact fun _ => rfl
      simp only [List.nil_append, List.cons_append, Nat.reduceAdd]
      refine wpInv_det (by kernel_rfl) (by kernel_rfl) ?_
      apply Exists.intro
      refine ⟨?_, ?_, ?_⟩
      · intro U W hC hH
        have hc1 := (bcell hC).1
        have hf1 := (bcell hC).2
        simp only [HypsU, predsOf, Region.binds, List.filterMap_cons, List.filterMap_nil, if_true, List.nil_append, List.cons_append, List.getD_cons_zero, List.getD_cons_succ] at hH
        simp only [fillPuts, Act.put, List.setIfInBounds_toArray, List.set_cons_zero, List.set_cons_succ, Nat.reduceAdd]
        go_wp2_with fail
        refine ⟨rfl, rfl, by (repeat' (first | (with_reducible exact Below.refl _ _) | (with_reducible assumption) | (with_reducible refine Below.alloc ?_ ?_ _) | (with_reducible refine below_grew ?_ ?_ _) | (with_reducible refine Below.setCell ?_ ?_ _) | (with_reducible refine Below.drew ?_) | (with_reducible refine below_drewN ?_ _) | omega | (simp; done) | (simp; omega))), ?_⟩
        conv => lhs; whnf
        try rfl
      · exact fun _ => rfl
      simp only [List.nil_append, List.cons_append, Nat.reduceAdd]
      refine wpInv_det (by kernel_rfl) (by kernel_rfl) ?_
      apply Exists.intro
      refine ⟨?_, ?_, ?_⟩
      · intro U W hC hH
        have hc1 := (bcell hC).1
        have hf1 := (bcell hC).2
        simp only [HypsU, predsOf, Region.binds, List.filterMap_cons, List.filterMap_nil, if_true, List.nil_append, List.cons_append, List.getD_cons_zero, List.getD_cons_succ] at hH
        simp only [fillPuts, Act.put, List.setIfInBounds_toArray, List.set_cons_zero, List.set_cons_succ, Nat.reduceAdd]
        go_wp2_with fail
        refine ⟨rfl, rfl, by (repeat' (first | (with_reducible exact Below.refl _ _) | (with_reducible assumption) | (with_reducible refine Below.alloc ?_ ?_ _) | (with_reducible refine below_grew ?_ ?_ _) | (with_reducible refine Below.setCell ?_ ?_ _) | (with_reducible refine Below.drew ?_) | (with_reducible refine below_drewN ?_ _) | omega | (simp; done) | (simp; omega))), ?_⟩
        conv => lhs; whnf
        try rfl
      · exact fun _ => rfl
      simp only [List.nil_append, List.cons_append, Nat.reduceAdd]
      refine wpInv_det (by kernel_rfl) (by kernel_rfl) ?_
      apply Exists.intro
      refine ⟨?_, ?_, ?_⟩
      · intro U W hC hH
        have hc1 := (bcell hC).1
        have hf1 := (bcell hC).2
        simp only [HypsU, predsOf, Region.binds, List.filterMap_cons, List.filterMap_nil, if_true, List.nil_append, List.cons_append, List.getD_cons_zero, List.getD_cons_succ] at hH
        simp only [fillPuts, Act.put, List.setIfInBounds_toArray, List.set_cons_zero, List.set_cons_succ, Nat.reduceAdd]
        go_wp2_with fail
        refine ⟨rfl, rfl, by (repeat' (first | (with_reducible exact Below.refl _ _) | (with_reducible assumption) | (with_reducible refine Below.alloc ?_ ?_ _) | (with_reducible refine below_grew ?_ ?_ _) | (with_reducible refine Below.setCell ?_ ?_ _) | (with_reducible refine Below.drew ?_) | (with_reducible refine below_drewN ?_ _) | omega | (simp; done) | (simp; omega))), ?_⟩
        conv => lhs; whnf
        try rfl
      · exact fun _ => rfl
      simp only [List.nil_append, List.cons_append, Nat.reduceAdd]
      refine wpInv_det (by kernel_rfl) (by kernel_rfl) ?_
      apply Exists.intro
      refine ⟨?_, ?_, ?_⟩
      · intro U W hC hH
        have hc1 := (bcell hC).1
        have hf1 := (bcell hC).2
        simp only [HypsU, predsOf, Region.binds, List.filterMap_cons, List.filterMap_nil, if_true, List.nil_append, List.cons_append, List.getD_cons_zero, List.getD_cons_succ] at hH
        simp only [fillPuts, Act.put, List.setIfInBounds_toArray, List.set_cons_zero, List.set_cons_succ, Nat.reduceAdd]
        go_wp2_with fail
        refine ⟨rfl, rfl, by (repeat' (first | (with_reducible exact Below.refl _ _) | (with_reducible assumption) | (with_reducible refine Below.alloc ?_ ?_ _) | (with_reducible refine below_grew ?_ ?_ _) | (with_reducible refine Below.setCell ?_ ?_ _) | (with_reducible refine Below.drew ?_) | (with_reducible refine below_drewN ?_ _) | omega | (simp; done) | (simp; omega))), ?_⟩
        conv => lhs; whnf
        try rfl
      · exact fun _ => rfl
      simp only [List.nil_append, List.cons_append, Nat.reduceAdd]
      refine wpInv_det (by kernel_rfl) (by kernel_rfl) ?_
      apply Exists.intro
      refine ⟨?_, ?_, ?_⟩
      · intro U W hC hH
        have hc1 := (bcell hC).1
        have hf1 := (bcell hC).2
        simp only [HypsU, predsOf, Region.binds, List.filterMap_cons, List.filterMap_nil, if_true, List.nil_append, List.cons_append, List.getD_cons_zero, List.getD_cons_succ] at hH
        simp only [fillPuts, Act.put, List.setIfInBounds_toArray, List.set_cons_zero, List.set_cons_succ, Nat.reduceAdd]
        go_wp2_with fail
        refine ⟨rfl, rfl, by (repeat' (first | (with_reducible exact Below.refl _ _) | (with_reducible assumption) | (with_reducible refine Below.alloc ?_ ?_ _) | (with_reducible refine below_grew ?_ ?_ _) | (with_reducible refine Below.setCell ?_ ?_ _) | (with_reducible refine Below.drew ?_) | (with_reducible refine below_drewN ?_ _) | omega | (simp; done) | (simp; omega))), ?_⟩
        conv => lhs; whnf
        try rfl
      · exact fun _ => rfl
      simp only [List.nil_append, List.cons_append, Nat.reduceAdd]
      refine wpInv_det (by kernel_rfl) (by kernel_rfl) ?_
      apply Exists.intro
      refine ⟨?_, ?_, ?_⟩
      · intro U W hC hH
        have hc1 := (bcell hC).1
        have hf1 := (bcell hC).2
        simp only [HypsU, predsOf, Region.binds, List.filterMap_cons, List.filterMap_nil, if_true, List.nil_append, List.cons_append, List.getD_cons_zero, List.getD_cons_succ] at hH
        simp only [fillPuts, Act.put, List.setIfInBounds_toArray, List.set_cons_zero, List.set_cons_succ, Nat.reduceAdd]
        go_wp2_with fail
        refine ⟨rfl, rfl, by (repeat' (first | (with_reducible exact Below.refl _ _) | (with_reducible assumption) | (with_reducible refine Below.alloc ?_ ?_ _) | (with_reducible refine below_grew ?_ ?_ _) | (with_reducible refine Below.setCell ?_ ?_ _) | (with_reducible refine Below.drew ?_) | (with_reducible refine below_drewN ?_ _) | omega | (simp; done) | (simp; omega))), ?_⟩
        conv => lhs; whnf
        try rfl
      · exact fun _ => rfl
      simp only [List.nil_append, List.cons_append, Nat.reduceAdd]
      refine wpInv_det (by kernel_rfl) (by kernel_rfl) ?_
      apply Exists.intro
      refine ⟨?_, ?_, ?_⟩
      · intro U W hC hH
        have hc1 := (bcell hC).1
        have hf1 := (bcell hC).2
        simp only [HypsU, predsOf, Region.binds, List.filterMap_cons, List.filterMap_nil, if_true, List.nil_append, List.cons_append, List.getD_cons_zero, List.getD_cons_succ] at hH
        simp only [fillPuts, Act.put, List.setIfInBounds_toArray, List.set_cons_zero, List.set_cons_succ, Nat.reduceAdd]
        go_wp2_with fail
        refine ⟨rfl, rfl, by (repeat' (first | (with_reducible exact Below.refl _ _) | (with_reducible assumption) | (with_reducible refine Below.alloc ?_ ?_ _) | (with_reducible refine below_grew ?_ ?_ _) | (with_reducible refine Below.setCell ?_ ?_ _) | (with_reducible refine Below.drew ?_) | (with_reducible refine below_drewN ?_ _) | omega | (simp; done) | (simp; omega))), ?_⟩
        conv => lhs; whnf
        try rfl
      · exact fun _ => rfl
      simp only [List.nil_append, List.cons_append, Nat.reduceAdd]
      refine wpInv_det (by kernel_rfl) (by kernel_rfl) ?_
      apply Exists.intro
      refine ⟨?_, ?_, ?_⟩
      · intro U W hC hH
        have hc1 := (bcell hC).1
        have hf1 := (bcell hC).2
        simp only [HypsU, predsOf, Region.binds, List.filterMap_cons, List.filterMap_nil, if_true, List.nil_append, List.cons_append, List.getD_cons_zero, List.getD_cons_succ] at hH
        simp only [fillPuts, Act.put, List.setIfInBounds_toArray, List.set_cons_zero, List.set_cons_succ, Nat.reduceAdd]
        go_wp2_with fail
        refine ⟨rfl, rfl, by (repeat' (first | (with_reducible exact Below.refl _ _) | (with_reducible assumption) | (with_reducible refine Below.alloc ?_ ?_ _) | (with_reducible refine below_grew ?_ ?_ _) | (with_reducible refine Below.setCell ?_ ?_ _) | (with_reducible refine Below.drew ?_) | (with_reducible refine below_drewN ?_ _) | omega | (simp; done) | (simp; omega))), ?_⟩
        conv => lhs; whnf
        try rfl
      · exact fun _ => rfl
      simp only [List.nil_append, List.cons_append, Nat.reduceAdd]
      refine wpInv_det (by kernel_rfl) (by kernel_rfl) ?_
      apply Exists.intro
      refine ⟨?_, ?_, ?_⟩
      · intro U W hC hH
        have hc1 := (bcell hC).1
        have hf1 := (bcell hC).2
        simp only [HypsU, predsOf, Region.binds, List.filterMap_cons, List.filterMap_nil, if_true, List.nil_append, List.cons_append, List.getD_cons_zero, List.getD_cons_succ] at hH
        simp only [fillPuts, Act.put, List.setIfInBounds_toArray, List.set_cons_zero, List.set_cons_succ, Nat.reduceAdd]
        go_wp2_with fail
        refine ⟨rfl, rfl, by (repeat' (first | (with_reducible exact Below.refl _ _) | (with_reducible assumption) | (with_reducible refine Below.alloc ?_ ?_ _) | (with_reducible refine below_grew ?_ ?_ _) | (with_reducible refine Below.setCell ?_ ?_ _) | (with_reducible refine Below.drew ?_) | (with_reducible refine below_drewN ?_ _) | omega | (simp; done) | (simp; omega))), ?_⟩
        conv => lhs; whnf
        try rfl
      · exact fun _ => rfl
      simp only [List.nil_append, List.cons_append, Nat.reduceAdd]
      simp only [List.nil_append, List.cons_append, Nat.reduceAdd, fillPuts, Act.put, List.setIfInBounds_toArray, List.set_cons_zero, List.set_cons_succ]
      rintro U W hC ⟨h0, h1, h2, h3, h4, h5, h6, h7, h8, h9, h10, h11, h12, -⟩ -
      simp only [h0, h1, h2, h3, h4, h5, h6, h7, h8, h9, h10, h11, h12]
      have hRW := HR.out.keep0 hC
      have HRW := Lib.hid hRW
      have HCW := Lib.hid (HC.out.below hC)
      have d4 := hRW.c4
      have g4 := hRW.fz 4
      have dl := hRW.lt
      clear h0 h1 h2 h3 h4 h5 h6 h7 h8 h9 h10 h11 h12 hC hRW HR HC c4 c3 hl
      go_upto_region 8 with fail
      refine cut_world (fun W => RdAt c (cutS s f e e) W ∧ Chg [c.rb] w W) ⟨by rw [HCUT.out]; exact HRW.out.set4 (min v2 (R - 1)), HCW.out.setCell _ (by simp)⟩ ?_
      clear HRW HCW d4 g4 dl k0 k1 k2 k3 k4 m0 m1 m2 HCUT q1 q2 q5 q6 q7 q8 HVV HRR
      rintro V3 ⟨hR, hC⟩
      have HR := Lib.hid hR
      have HC := Lib.hid hC
      clear hR hC
      generalize cutS s f e e = S0 at *
      go_loopw [] (fun wr => ∃ S : RS, Reach c E S ∧ RdAt c S wr ∧ Chg [c.rb] w wr) (fun wr => rngAt c.rb wr)
      case atStart => exact ⟨S0, hRE.out, HR.out, HC.out⟩
      case round =>
        clear HR HC hRE
        obtain ⟨S, hre, hR, hC⟩ := hrel
        have HRE := Lib.hid hre
        have HR := Lib.hid hR
        have HC := Lib.hid hC
        have c3 := hR.c3
        have f3 := hR.fz 3
        have hl := hR.lt
        have hst := hre.taken
        obtain ⟨-, s0, s1, z0, z1⟩ := hre
        clear hR hC
        by_cases hrs : S.rng ≤ 65536
        · have HNX := Lib.hid (HRE.out.step HOKE.out HB.out hrs)
          have HNS := Lib.hid (show normS c S = { taken := S.taken + 1, raws := S.raws, rng := S.rng * 256, val := S.val * 256 + c.byte S.taken } by unfold normS; rw [if_pos hrs])
          have HRG := Lib.hid (rngAt_of HR.out)
          obtain ⟨x, hx⟩ : ∃ x, S.rng = x := ⟨_, rfl⟩
          rw [hx] at c3 s0 s1 z1 hrs HNS HRG
          go_upto_region 10 with fail
          refine cut_world (fun W => RdAt c { taken := S.taken, raws := S.raws, rng := x * 256, val := S.val } W ∧ Chg [c.rb] w W) ⟨HR.out.set3 (x * 256), HC.out.setCell _ (by simp)⟩ ?_
          clear HR HC c3 f3 hl
          rintro V4 ⟨hR, hC⟩
          have HR4 := Lib.hid hR
          have HC4 := Lib.hid hC
          have hbb := HB.out S.taken
          have hl := hR.lt
          clear hR hC
          have HNXT := Lib.hid (fun W hp => rdNext c { taken := S.taken, raws := S.raws, rng := x * 256, val := S.val } (by simp only; omega) W hp hn)
          have HF := Lib.hid (fun (b : Bool) W (hp : RdAt c { taken := if b = true then S.taken + 1 else S.taken, raws := S.raws, rng := x * 256, val := S.val } W) => (show W.cell? ⟨c.rb, 4, none⟩ = some (.int .u32 S.val) from hp.c4))
          have HPD := Lib.hid (fun (b : Bool) W W' (hb : Below W.heap.size W W') (hp : RdAt c { taken := if b = true then S.taken + 1 else S.taken, raws := S.raws, rng := x * 256, val := S.val } W) => hp.keep0 hb)
          obtain ⟨z, hz⟩ : ∃ z, c.byte S.taken = z := ⟨_, rfl⟩
          rw [hz] at hbb HNS
          have HZ := Lib.hid hz
          obtain ⟨b0, b1⟩ := hbb
          clear hz
          refine region_one [c.rb] 7 11 (fun b W => RdAt c { taken := if b = true then S.taken + 1 else S.taken, raws := S.raws, rng := x * 256, val := S.val } W) (by kernel_rfl) (by kernel_rfl) HR4.out (fun W h => h.keep0 (Below.refl _ _).drew) HPD.out ?_
          simp only [List.take_succ_cons, List.take_zero, List.drop_succ_cons, List.drop_zero]
          refine RI.wpInv_det (by kernel_rfl) (by kernel_rfl) ?_
          apply Exists.intro
          refine ⟨?_, ?_, ?_⟩
          · rintro D U W hDi ⟨hC, hP⟩ hH
            have hF := HF.out _ W hP
            simp only [HypsU, predsOf, Region.binds, List.filterMap_cons, List.filterMap_nil, if_true, List.nil_append, List.cons_append, List.getD_cons_zero, List.getD_cons_succ] at hH
            simp only [fillPuts, Act.put, List.setIfInBounds_toArray, List.set_cons_zero, List.set_cons_succ, Nat.reduceAdd]
            go_wp2_with fail
            refine ⟨rfl, rfl, (show Below W.heap.size W _ from by (repeat' (first | (with_reducible exact Below.refl _ _) | (with_reducible assumption) | (with_reducible refine Below.alloc ?_ ?_ _) | (with_reducible refine below_grew ?_ ?_ _) | (with_reducible refine Below.setCell ?_ ?_ _) | (with_reducible refine Below.drew ?_) | (with_reducible refine below_drewN ?_ _) | omega | (simp; done) | (simp; omega)))), ?_⟩
            conv => lhs; whnf
            try rfl
          · exact fun _ => rfl
          simp only [List.nil_append, List.cons_append, Nat.reduceAdd]
          refine RI.wpInv_det (by kernel_rfl) (by kernel_rfl) ?_
          apply Exists.intro
          refine ⟨?_, ?_, ?_⟩
          · rintro D U W hDi ⟨hC, hP⟩ hH
            have hF := HF.out _ W hP
            simp only [HypsU, predsOf, Region.binds, List.filterMap_cons, List.filterMap_nil, if_true, List.nil_append, List.cons_append, List.getD_cons_zero, List.getD_cons_succ] at hH
            simp only [fillPuts, Act.put, List.setIfInBounds_toArray, List.set_cons_zero, List.set_cons_succ, Nat.reduceAdd]
            go_wp2_with fail
            refine ⟨rfl, rfl, (show Below W.heap.size W _ from by (repeat' (first | (with_reducible exact Below.refl _ _) | (with_reducible assumption) | (with_reducible refine Below.alloc ?_ ?_ _) | (with_reducible refine below_grew ?_ ?_ _) | (with_reducible refine Below.setCell ?_ ?_ _) | (with_reducible refine Below.drew ?_) | (with_reducible refine below_drewN ?_ _) | omega | (simp; done) | (simp; omega)))), ?_⟩
            conv => lhs; whnf
            try rfl
          · exact fun _ => rfl
          simp only [List.nil_append, List.cons_append, Nat.reduceAdd]
          refine RI.wpInv_det (by kernel_rfl) (by kernel_rfl) ?_
          apply Exists.intro
          refine ⟨?_, ?_, ?_⟩
          · rintro D U W hDi ⟨hC, hP⟩ hH
            have hF := HF.out _ W hP
            simp only [HypsU, predsOf, Region.binds, List.filterMap_cons, List.filterMap_nil, if_true, List.nil_append, List.cons_append, List.getD_cons_zero, List.getD_cons_succ] at hH
            simp only [fillPuts, Act.put, List.setIfInBounds_toArray, List.set_cons_zero, List.set_cons_succ, Nat.reduceAdd]
            go_wp2_with fail
            refine ⟨rfl, rfl, (show Below W.heap.size W _ from by (repeat' (first | (with_reducible exact Below.refl _ _) | (with_reducible assumption) | (with_reducible refine Below.alloc ?_ ?_ _) | (with_reducible refine below_grew ?_ ?_ _) | (with_reducible refine Below.setCell ?_ ?_ _) | (with_reducible refine Below.drew ?_) | (with_reducible refine below_drewN ?_ _) | omega | (simp; done) | (simp; omega)))), ?_⟩
            conv => lhs; whnf
            try rfl
          · exact fun _ => rfl
          simp only [List.nil_append, List.cons_append, Nat.reduceAdd]
          refine RI.wpInv_det (by kernel_rfl) (by kernel_rfl) ?_
          apply Exists.intro
          refine ⟨?_, ?_, ?_⟩
          · rintro D U W hDi ⟨hC, hP⟩ hH
            have hF := HF.out _ W hP
            simp only [HypsU, predsOf, Region.binds, List.filterMap_cons, List.filterMap_nil, if_true, List.nil_append, List.cons_append, List.getD_cons_zero, List.getD_cons_succ] at hH
            simp only [fillPuts, Act.put, List.setIfInBounds_toArray, List.set_cons_zero, List.set_cons_succ, Nat.reduceAdd]
            go_wp2_with fail
            refine ⟨rfl, rfl, (show Below W.heap.size W _ from by (repeat' (first | (with_reducible exact Below.refl _ _) | (with_reducible assumption) | (with_reducible refine Below.alloc ?_ ?_ _) | (with_reducible refine below_grew ?_ ?_ _) | (with_reducible refine Below.setCell ?_ ?_ _) | (with_reducible refine Below.drew ?_) | (with_reducible refine below_drewN ?_ _) | omega | (simp; done) | (simp; omega)))), ?_⟩
            conv => lhs; whnf
            try rfl
          · exact fun _ => rfl
          simp only [List.nil_append, List.cons_append, Nat.reduceAdd]
          refine RI.wpInv_det (by kernel_rfl) (by kernel_rfl) ?_
          apply Exists.intro
          refine ⟨?_, ?_, ?_⟩
          · rintro D U W hDi ⟨hC, hP⟩ hH
            have hF := HF.out _ W hP
            simp only [HypsU, predsOf, Region.binds, List.filterMap_cons, List.filterMap_nil, if_true, List.nil_append, List.cons_append, List.getD_cons_zero, List.getD_cons_succ] at hH
            simp only [fillPuts, Act.put, List.setIfInBounds_toArray, List.set_cons_zero, List.set_cons_succ, Nat.reduceAdd]
            go_wp2_with fail
            refine ⟨rfl, rfl, (show Below W.heap.size W _ from by (repeat' (first | (with_reducible exact Below.refl _ _) | (with_reducible assumption) | (with_reducible refine Below.alloc ?_ ?_ _) | (with_reducible refine below_grew ?_ ?_ _) | (with_reducible refine Below.setCell ?_ ?_ _) | (with_reducible refine Below.drew ?_) | (with_reducible refine below_drewN ?_ _) | omega | (simp; done) | (simp; omega)))), ?_⟩
            conv => lhs; whnf
            try rfl
          · exact fun _ => rfl
          simp only [List.nil_append, List.cons_append, Nat.reduceAdd]
          refine RI.wpInv_det (by kernel_rfl) (by kernel_rfl) ?_
          apply Exists.intro
          refine ⟨?_, ?_, ?_⟩
          · rintro D U W hDi ⟨hC, hP⟩ hH
            have hF := HF.out _ W hP
            simp only [HypsU, predsOf, Region.binds, List.filterMap_cons, List.filterMap_nil, if_true, List.nil_append, List.cons_append, List.getD_cons_zero, List.getD_cons_succ] at hH
            simp only [fillPuts, Act.put, List.setIfInBounds_toArray, List.set_cons_zero, List.set_cons_succ, Nat.reduceAdd]
            (try simp only [hH]); go_wp2_with fail
            refine ⟨rfl, rfl, (show Below W.heap.size W _ from by (repeat' (first | (with_reducible exact Below.refl _ _) | (with_reducible assumption) | (with_reducible refine Below.alloc ?_ ?_ _) | (with_reducible refine below_grew ?_ ?_ _) | (with_reducible refine Below.setCell ?_ ?_ _) | (with_reducible refine Below.drew ?_) | (with_reducible refine below_drewN ?_ _) | omega | (simp; done) | (simp; omega)))), ?_⟩
            conv => lhs; whnf
            try rfl
          · exact fun _ => rfl
          simp only [List.nil_append, List.cons_append, Nat.reduceAdd]
          refine RI.wpInv_det (by kernel_rfl) (by kernel_rfl) ?_
          apply Exists.intro
          refine ⟨?_, ?_, ?_⟩
          · rintro D U W hDi ⟨hC, hP⟩ hH
            have hF := HF.out _ W hP
            simp only [HypsU, predsOf, Region.binds, List.filterMap_cons, List.filterMap_nil, if_true, List.nil_append, List.cons_append, List.getD_cons_zero, List.getD_cons_succ] at hH
            simp only [fillPuts, Act.put, List.setIfInBounds_toArray, List.set_cons_zero, List.set_cons_succ, Nat.reduceAdd]
            go_wp2_with fail
            refine ⟨rfl, rfl, (show Below W.heap.size W _ from by (repeat' (first | (with_reducible exact Below.refl _ _) | (with_reducible assumption) | (with_reducible refine Below.alloc ?_ ?_ _) | (with_reducible refine below_grew ?_ ?_ _) | (with_reducible refine Below.setCell ?_ ?_ _) | (with_reducible refine Below.drew ?_) | (with_reducible refine below_drewN ?_ _) | omega | (simp; done) | (simp; omega)))), ?_⟩
            conv => lhs; whnf
            try rfl
          · exact fun _ => rfl
          simp only [List.nil_append, List.cons_append, Nat.reduceAdd]
          refine RI.wpInv_det (by kernel_rfl) (by kernel_rfl) ?_
          apply Exists.intro
          refine ⟨?_, ?_, ?_⟩
          · rintro D U W hDi ⟨hC, hP⟩ hH
            rw [hDi] at hP
            simp only [HypsU, predsOf, Region.binds, List.filterMap_cons, List.filterMap_nil, if_true, List.nil_append, List.cons_append, List.getD_cons_zero, List.getD_cons_succ] at hH
            simp only [fillPuts, Act.put, List.setIfInBounds_toArray, List.set_cons_zero, List.set_cons_succ, Nat.reduceAdd]
            (try simp only [hH]); go_wp2_with fail; refine (HNXT.out W hP).mono ?_; rintro e2 w' ⟨rfl, hp1, hg1⟩; rw [HZ.out]; go_wp2_with fail
            refine ⟨rfl, rfl, (show Chg _ _ _ ∧ _ from ⟨hg1, hp1⟩), ?_⟩
            conv => lhs; whnf
            try rfl
          · exact fun _ => rfl
          simp only [List.nil_append, List.cons_append, Nat.reduceAdd]
          refine RI.wpInv_det (by kernel_rfl) (by kernel_rfl) ?_
          apply Exists.intro
          refine ⟨?_, ?_, ?_⟩
          · rintro D U W hDi ⟨hC, hP⟩ hH
            have hF := HF.out _ W hP
            simp only [HypsU, predsOf, Region.binds, List.filterMap_cons, List.filterMap_nil, if_true, List.nil_append, List.cons_append, List.getD_cons_zero, List.getD_cons_succ] at hH
            simp only [fillPuts, Act.put, List.setIfInBounds_toArray, List.set_cons_zero, List.set_cons_succ, Nat.reduceAdd]
            (try simp only [hH]); go_wp2_with fail
            refine ⟨rfl, rfl, (show Below W.heap.size W _ from by (repeat' (first | (with_reducible exact Below.refl _ _) | (with_reducible assumption) | (with_reducible refine Below.alloc ?_ ?_ _) | (with_reducible refine below_grew ?_ ?_ _) | (with_reducible refine Below.setCell ?_ ?_ _) | (with_reducible refine Below.drew ?_) | (with_reducible refine below_drewN ?_ _) | omega | (simp; done) | (simp; omega)))), ?_⟩
            conv => lhs; whnf
            try rfl
          · exact fun _ => rfl
          simp only [List.nil_append, List.cons_append, Nat.reduceAdd]
          refine RI.wpInv_det (by kernel_rfl) (by kernel_rfl) ?_
          apply Exists.intro
          refine ⟨?_, ?_, ?_⟩
          · rintro D U W hDi ⟨hC, hP⟩ hH
            have hF := HF.out _ W hP
            simp only [HypsU, predsOf, Region.binds, List.filterMap_cons, List.filterMap_nil, if_true, List.nil_append, List.cons_append, List.getD_cons_zero, List.getD_cons_succ] at hH
            simp only [fillPuts, Act.put, List.setIfInBounds_toArray, List.set_cons_zero, List.set_cons_succ, Nat.reduceAdd]
            go_wp2_with fail
            refine ⟨rfl, rfl, (show Below W.heap.size W _ from by (repeat' (first | (with_reducible exact Below.refl _ _) | (with_reducible assumption) | (with_reducible refine Below.alloc ?_ ?_ _) | (with_reducible refine below_grew ?_ ?_ _) | (with_reducible refine Below.setCell ?_ ?_ _) | (with_reducible refine Below.drew ?_) | (with_reducible refine below_drewN ?_ _) | omega | (simp; done) | (simp; omega)))), ?_⟩
            conv => lhs; whnf
            try rfl
          · exact fun _ => rfl
          simp only [List.nil_append, List.cons_append, Nat.reduceAdd]
          refine RI.wpInv_det (by kernel_rfl) (by kernel_rfl) ?_
          apply Exists.intro
          refine ⟨?_, ?_, ?_⟩
          · rintro D U W hDi ⟨hC, hP⟩ hH
            have hF := HF.out _ W hP
            simp only [HypsU, predsOf, Region.binds, List.filterMap_cons, List.filterMap_nil, if_true, List.nil_append, List.cons_append, List.getD_cons_zero, List.getD_cons_succ] at hH
            simp only [fillPuts, Act.put, List.setIfInBounds_toArray, List.set_cons_zero, List.set_cons_succ, Nat.reduceAdd]
            go_wp2_with fail
            refine ⟨rfl, rfl, (show Below W.heap.size W _ from by (repeat' (first | (with_reducible exact Below.refl _ _) | (with_reducible assumption) | (with_reducible refine Below.alloc ?_ ?_ _) | (with_reducible refine below_grew ?_ ?_ _) | (with_reducible refine Below.setCell ?_ ?_ _) | (with_reducible refine Below.drew ?_) | (with_reducible refine below_drewN ?_ _) | omega | (simp; done) | (simp; omega)))), ?_⟩
            conv => lhs; whnf
            try rfl
          · exact fun _ => rfl
          simp only [List.nil_append, List.cons_append, Nat.reduceAdd]
          simp only [List.nil_append, List.cons_append, Nat.reduceAdd, fillPuts, Act.put, List.setIfInBounds_toArray, List.set_cons_zero, List.set_cons_succ]
          rintro D U W hD ⟨hC, hP⟩ ⟨h0, h1, h2, h3, h4, h5, h6, h7, h8, h9, h10, -⟩ -
          rw [hD 7 (by omega)] at hP
          simp only [h0, h1, h2, h3, h4, h5, h6, h7, h8, h9, h10]
          have hP2 : RdAt c { taken := S.taken + 1, raws := S.raws, rng := x * 256, val := S.val } W := hP
          rw [or_byte S.val z z0 b0 b1 (by omega)]
          have HPW := Lib.hid hP2
          have HCW := Lib.hid (HC4.out.trans hC)
          have d4 := hP2.c4
          have g4 := hP2.fz 4
          have dl := hP2.lt
          have hmz : rngAt c.rb (W.setCell ⟨c.rb, 4, none⟩ (.int .u32 (S.val * 256 + z))) < rngAt c.rb wr := by
            rw [rngAt_of (hP2.set4 (S.val * 256 + z)), HRG.out]
            simp only
            omega
          have HMZ := Lib.hid hmz
          clear h0 h1 h2 h3 h4 h5 h6 h7 h8 h9 h10 hC hP hP2 HR4 HC4 HNXT HF HPD hl hmz
          go_wp2_with fail
          go_roundw
          case rel => exact ⟨normS c S, HNX.out, by rw [HNS.out]; exact HPW.out.set4 (S.val * 256 + z), HCW.out.setCell _ (by simp)⟩
          case measure => exact HMZ.out
        · have hse := HRE.out.done (by omega)
          have hrs' : 65536 < S.rng := by omega
          subst hse
          go_wp2_with fail
          go_end0
          exact ⟨rfl, HR.out, HC.out⟩
    · rw [if_neg het2] at q1 q2 HCUT
      go_upto_region 6 with fail
      refine cut_world (fun W => RdAt c { taken := s.taken, raws := s.raws, rng := ep, val := s.val } W ∧ Chg [c.rb] w W) ⟨HR.out.set3 (ep), HC.out.setCell _ (by simp)⟩ ?_
      have m2 : v ≤ 16777216 := by omega
      clear HR HC c3 f3 hl hq1 p1 p2 r0 r1 v1 ht0 hfp hep
      rintro V1 ⟨hR, hC⟩
      have HR := Lib.hid hR
      have HC := Lib.hid hC
      have c4 := hR.c4
      have hl := hR.lt
      simp only [HVV.out] at c4
      clear hR hC
      obtain ⟨R, hR1⟩ : ∃ x, ep = x := ⟨_, rfl⟩
      rw [hR1] at q1 q2 HCUT HR
      clear hR1
      have m0 : 0 ≤ v - min fp v := by omega
      have m1 : v - min fp v ≤ v := by omega
      refine wp_region_inv [] (fun W => Below V1.heap.size V1 W) (fun W W' => Below W.heap.size W W') 13 (by kernel_rfl) (by kernel_rfl) (by kernel_rfl) ((Below.refl _ _).drew) (fun W W' h h' => h.trans (h'.mono h.size)) (fun _ _ h => h.size) ?_
      simp only [List.take_succ_cons, List.take_zero, List.drop_succ_cons, List.drop_zero]
      refine wpInv_det (by kernel_rfl) (by kernel_rfl) ?_
      apply Exists.intro
      refine ⟨?_, ?_, ?_⟩
      · intro U W hC hH
        have hc1 := (bcell hC).1
        have hf1 := (bcell hC).2
        simp only [HypsU, predsOf, Region.binds, List.filterMap_cons, List.filterMap_nil, if_true, List.nil_append, List.cons_append, List.getD_cons_zero, List.getD_cons_succ] at hH
        simp only [fillPuts, Act.put, List.setIfInBounds_toArray, List.set_cons_zero, List.set_cons_succ, Nat.reduceAdd]
        go_wp2_with fail
        refine ⟨rfl, rfl, by (repeat' (first | (with_reducible exact Below.refl _ _) | (with_reducible assumption) | (with_reducible refine Below.alloc ?_ ?_ _) | (with_reducible refine below_grew ?_ ?_ _) | (with_reducible refine Below.setCell ?_ ?_ _) | (with_reducible refine Below.drew ?_) | (with_reducible refine below_drewN ?_ _) | omega | (simp; done) | (simp; omega))), ?_⟩
        conv => lhs; whnf
        try rfl
      · exact fun _ => rfl
      simp only [List.nil_append, List.cons_append, Nat.reduceAdd]
      refine wpInv_det (by kernel_rfl) (by kernel_rfl) ?_
      apply Exists.intro
      refine ⟨?_, ?_, ?_⟩
      · intro U W hC hH
        have hc1 := (bcell hC).1
        have hf1 := (bcell hC).2
        simp only [HypsU, predsOf, Region.binds, List.filterMap_cons, List.filterMap_nil, if_true, List.nil_append, List.cons_append, List.getD_cons_zero, List.getD_cons_succ] at hH
        simp only [fillPuts, Act.put, List.setIfInBounds_toArray, List.set_cons_zero, List.set_cons_succ, Nat.reduceAdd]
        go_wp2_with fail
        refine ⟨rfl, rfl, by (repeat' (first | (with_reducible exact Below.refl _ _) | (with_reducible assumption) | (with_reducible refine Below.alloc ?_ ?_ _) | (with_reducible refine below_grew ?_ ?_ _) | (with_reducible refine Below.setCell ?_ ?_ _) | (with_reducible refine Below.drew ?_) | (with_reducible refine below_drewN ?_ _) | omega | (simp; done) | (simp; omega))), ?_⟩
        conv => lhs; whnf
        try rfl
      · exact fun _ => rfl
      simp only [List.nil_append, List.cons_append, Nat.reduceAdd]
      refine wpInv_det (by kernel_rfl) (by kernel_rfl) ?_
      apply Exists.intro
      refine ⟨?_, ?_, ?_⟩
      · intro U W hC hH
        have hc1 := (bcell hC).1
        have hf1 := (bcell hC).2
        simp only [HypsU, predsOf, Region.binds, List.filterMap_cons, List.filterMap_nil, if_true, List.nil_append, List.cons_append, List.getD_cons_zero, List.getD_cons_succ] at hH
        simp only [fillPuts, Act.put, List.setIfInBounds_toArray, List.set_cons_zero, List.set_cons_succ, Nat.reduceAdd]
        go_wp2_with fail
        refine ⟨rfl, rfl, by (repeat' (first | (with_reducible exact Below.refl _ _) | (with_reducible assumption) | (with_reducible refine Below.alloc ?_ ?_ _) | (with_reducible refine below_grew ?_ ?_ _) | (with_reducible refine Below.setCell ?_ ?_ _) | (with_reducible refine Below.drew ?_) | (with_reducible refine below_drewN ?_ _) | omega | (simp; done) | (simp; omega))), ?_⟩
        conv => lhs; whnf
        try rfl
      · exact fun _ => rfl
      simp only [List.nil_append, List.cons_append, Nat.reduceAdd]
      refine wpInv_det (by kernel_rfl) (by kernel_rfl) ?_
      apply Exists.intro
      refine ⟨?_, ?_, ?_⟩
      · intro U W hC hH
        have hc1 := (bcell hC).1
        have hf1 := (bcell hC).2
        simp only [HypsU, predsOf, Region.binds, List.filterMap_cons, List.filterMap_nil, if_true, List.nil_append, List.cons_append, List.getD_cons_zero, List.getD_cons_succ] at hH
        simp only [fillPuts, Act.put, List.setIfInBounds_toArray, List.set_cons_zero, List.set_cons_succ, Nat.reduceAdd]
        go_wp2_with fail
        refine ⟨rfl, rfl, by (repeat' (first | (with_reducible exact Below.refl _ _) | (with_reducible assumption) | (with_reducible refine Below.alloc ?_ ?_ _) | (with_reducible refine below_grew ?_ ?_ _) | (with_reducible refine Below.setCell ?_ ?_ _) | (with_reducible refine Below.drew ?_) | (with_reducible refine below_drewN ?_ _) | omega | (simp; done) | (simp; omega))), ?_⟩
        conv => lhs; whnf
        try rfl
      · exact fun _ => rfl
      simp only [List.nil_append, List.cons_append, Nat.reduceAdd]
      refine wpInv_det (by kernel_rfl) (by kernel_rfl) ?_
      apply Exists.intro
      refine ⟨?_, ?_, ?_⟩
      · intro U W hC hH
        have hc1 := (bcell hC).1
        have hf1 := (bcell hC).2
        simp only [HypsU, predsOf, Region.binds, List.filterMap_cons, List.filterMap_nil, if_true, List.nil_append, List.cons_append, List.getD_cons_zero, List.getD_cons_succ] at hH
        simp only [fillPuts, Act.put, List.setIfInBounds_toArray, List.set_cons_zero, List.set_cons_succ, Nat.reduceAdd]
        go_wp2_with fail
        refine ⟨rfl, rfl, by (repeat' (first | (with_reducible exact Below.refl _ _) | (with_reducible assumption) | (with_reducible refine Below.alloc ?_ ?_ _) | (with_reducible refine below_grew ?_ ?_ _) | (with_reducible refine Below.setCell ?_ ?_ _) | (with_reducible refine Below.drew ?_) | (with_reducible refine below_drewN ?_ _) | omega | (simp; done) | (simp; omega))), ?_⟩
        conv => lhs; whnf
        try rfl
      · exact fun _ => rfl
      simp only [List.nil_append, List.cons_append, Nat.reduceAdd]
      refine wpInv_det (by kernel_rfl) (by kernel_rfl) ?_
      apply Exists.intro
      refine ⟨?_, ?_, ?_⟩
      · intro U W hC hH
        have hc1 := (bcell hC).1
        have hf1 := (bcell hC).2
        simp only [HypsU, predsOf, Region.binds, List.filterMap_cons, List.filterMap_nil, if_true, List.nil_append, List.cons_append, List.getD_cons_zero, List.getD_cons_succ] at hH
        simp only [fillPuts, Act.put, List.setIfInBounds_toArray, List.set_cons_zero, List.set_cons_succ, Nat.reduceAdd]
        go_wp2_with fail
        refine ⟨rfl, rfl, by (repeat' (first | (with_reducible exact Below.refl _ _) | (with_reducible assumption) | (with_reducible refine Below.alloc ?_ ?_ _) | (with_reducible refine below_grew ?_ ?_ _) | (with_reducible refine Below.setCell ?_ ?_ _) | (with_reducible refine Below.drew ?_) | (with_reducible refine below_drewN ?_ _) | omega | (simp; done) | (simp; omega))), ?_⟩
        conv => lhs; whnf
        try rfl
      · exact fun _ => rfl
      simp only [List.nil_append, List.cons_append, Nat.reduceAdd]
      refine wpInv_det (by kernel_rfl) (by kernel_rfl) ?_
      apply Exists.intro
      refine ⟨?_, ?_, ?_⟩
      · intro U W hC hH
        have hc1 := (bcell hC).1
        have hf1 := (bcell hC).2
        simp only [HypsU, predsOf, Region.binds, List.filterMap_cons, List.filterMap_nil, if_true, List.nil_append, List.cons_append, List.getD_cons_zero, List.getD_cons_succ] at hH
        simp only [fillPuts, Act.put, List.setIfInBounds_toArray, List.set_cons_zero, List.set_cons_succ, Nat.reduceAdd]
        go_wp2_with fail
        refine ⟨rfl, rfl, by (repeat' (first | (with_reducible exact Below.refl _ _) | (with_reducible assumption) | (with_reducible refine Below.alloc ?_ ?_ _) | (with_reducible refine below_grew ?_ ?_ _) | (with_reducible refine Below.setCell ?_ ?_ _) | (with_reducible refine Below.drew ?_) | (with_reducible refine below_drewN ?_ _) | omega | (simp; done) | (simp; omega))), ?_⟩
        conv => lhs; whnf
        try rfl
      · exact fun _ => rfl
      simp only [List.nil_append, List.cons_append, Nat.reduceAdd]
      refine wpInv_det (by kernel_rfl) (by kernel_rfl) ?_
      apply Exists.intro
      refine ⟨?_, ?_, ?_⟩
      · intro U W hC hH
        have hc1 := (bcell hC).1
        have hf1 := (bcell hC).2
        simp only [HypsU, predsOf, Region.binds, List.filterMap_cons, List.filterMap_nil, if_true, List.nil_append, List.cons_append, List.getD_cons_zero, List.getD_cons_succ] at hH
        simp only [fillPuts, Act.put, List.setIfInBounds_toArray, List.set_cons_zero, List.set_cons_succ, Nat.reduceAdd]
        go_wp2_with fail
        refine ⟨rfl, rfl, by (repeat' (first | (with_reducible exact Below.refl _ _) | (with_reducible assumption) | (with_reducible refine Below.alloc ?_ ?_ _) | (with_reducible refine below_grew ?_ ?_ _) | (with_reducible refine Below.setCell ?_ ?_ _) | (with_reducible refine Below.drew ?_) | (with_reducible refine below_drewN ?_ _) | omega | (simp; done) | (simp; omega))), ?_⟩
        conv => lhs; whnf
        try rfl
      · exact fun _ => rfl
      simp only [List.nil_append, List.cons_append, Nat.reduceAdd]
      refine wpInv_det (by kernel_rfl) (by kernel_rfl) ?_
      apply Exists.intro
      refine ⟨?_, ?_, ?_⟩
      · intro U W hC hH
        have hc1 := (bcell hC).1
        have hf1 := (bcell hC).2
        simp only [HypsU, predsOf, Region.binds, List.filterMap_cons, List.filterMap_nil, if_true, List.nil_append, List.cons_append, List.getD_cons_zero, List.getD_cons_succ] at hH
        simp only [fillPuts, Act.put, List.setIfInBounds_toArray, List.set_cons_zero, List.set_cons_succ, Nat.reduceAdd]
        go_wp2_with fail
        refine ⟨rfl, rfl, by (repeat' (first | (with_reducible exact Below.refl _ _) | (with_reducible assumption) | (with_reducible refine Below.alloc ?_ ?_ _) | (with_reducible refine below_grew ?_ ?_ _) | (with_reducible refine Below.setCell ?_ ?_ _) | (with_reducible refine Below.drew ?_) | (with_reducible refine below_drewN ?_ _) | omega | (simp; done) | (simp; omega))), ?_⟩
        conv => lhs; whnf
        try rfl
      · exact fun _ => rfl
      simp only [List.nil_append, List.cons_append, Nat.reduceAdd]
      refine wpInv_det (by kernel_rfl) (by kernel_rfl) ?_
      apply Exists.intro
      refine ⟨?_, ?_, ?_⟩
      · intro U W hC hH
        have hc1 := (bcell hC).1
        have hf1 := (bcell hC).2
        simp only [HypsU, predsOf, Region.binds, List.filterMap_cons, List.filterMap_nil, if_true, List.nil_append, List.cons_append, List.getD_cons_zero, List.getD_cons_succ] at hH
        simp only [fillPuts, Act.put, List.setIfInBounds_toArray, List.set_cons_zero, List.set_cons_succ, Nat.reduceAdd]
        go_wp2_with fail
        refine ⟨rfl, rfl, by (repeat' (first | (with_reducible exact Below.refl _ _) | (with_reducible assumption) | (with_reducible refine Below.alloc ?_ ?_ _) | (with_reducible refine below_grew ?_ ?_ _) | (with_reducible refine Below.setCell ?_ ?_ _) | (with_reducible refine Below.drew ?_) | (with_reducible refine below_drewN ?_ _) | omega | (simp; done) | (simp; omega))), ?_⟩
        conv => lhs; whnf
        try rfl
      · exact fun _ => rfl
      simp only [List.nil_append, List.cons_append, Nat.reduceAdd]
      refine wpInv_det (by kernel_rfl) (by kernel_rfl) ?_
      apply Exists.intro
      refine ⟨?_, ?_, ?_⟩
      · intro U W hC hH
        have hc1 := (bcell hC).1
        have hf1 := (bcell hC).2
        simp only [HypsU, predsOf, Region.binds, List.filterMap_cons, List.filterMap_nil, if_true, List.nil_append, List.cons_append, List.getD_cons_zero, List.getD_cons_succ] at hH
        simp only [fillPuts, Act.put, List.setIfInBounds_toArray, List.set_cons_zero, List.set_cons_succ, Nat.reduceAdd]
        go_wp2_with fail
        refine ⟨rfl, rfl, by (repeat' (first | (with_reducible exact Below.refl _ _) | (with_reducible assumption) | (with_reducible refine Below.alloc ?_ ?_ _) | (with_reducible refine below_grew ?_ ?_ _) | (with_reducible refine Below.setCell ?_ ?_ _) | (with_reducible refine Below.drew ?_) | (with_reducible refine below_drewN ?_ _) | omega | (simp; done) | (simp; omega))), ?_⟩
        conv => lhs; whnf
        try rfl
      · exact fun _ => rfl
      simp only [List.nil_append, List.cons_append, Nat.reduceAdd]
      refine wpInv_det (by kernel_rfl) (by kernel_rfl) ?_
      apply Exists.intro
      refine ⟨?_, ?_, ?_⟩
      · intro U W hC hH
        have hc1 := (bcell hC).1
        have hf1 := (bcell hC).2
        simp only [HypsU, predsOf, Region.binds, List.filterMap_cons, List.filterMap_nil, if_true, List.nil_append, List.cons_append, List.getD_cons_zero, List.getD_cons_succ] at hH
        simp only [fillPuts, Act.put, List.setIfInBounds_toArray, List.set_cons_zero, List.set_cons_succ, Nat.reduceAdd]
        go_wp2_with fail
        refine ⟨rfl, rfl, by (repeat' (first | (with_reducible exact Below.refl _ _) | (with_reducible assumption) | (with_reducible refine Below.alloc ?_ ?_ _) | (with_reducible refine below_grew ?_ ?_ _) | (with_reducible refine Below.setCell ?_ ?_ _) | (with_reducible refine Below.drew ?_) | (with_reducible refine below_drewN ?_ _) | omega | (simp; done) | (simp; omega))), ?_⟩
        conv => lhs; whnf
        try rfl
      · exact fun _ => rfl
      simp only [List.nil_append, List.cons_append, Nat.reduceAdd]
      refine wpInv_det (by kernel_rfl) (by kernel_rfl) ?_
      apply Exists.intro
      refine ⟨?_, ?_, ?_⟩
      · intro U W hC hH
        have hc1 := (bcell hC).1
        have hf1 := (bcell hC).2
        simp only [HypsU, predsOf, Region.binds, List.filterMap_cons, List.filterMap_nil, if_true, List.nil_append, List.cons_append, List.getD_cons_zero, List.getD_cons_succ] at hH
        simp only [fillPuts, Act.put, List.setIfInBounds_toArray, List.set_cons_zero, List.set_cons_succ, Nat.reduceAdd]
        go_wp2_with fail
        refine ⟨rfl, rfl, by (repeat' (first | (with_reducible exact Below.refl _ _) | (with_reducible assumption) | (with_reducible refine Below.alloc ?_ ?_ _) | (with_reducible refine below_grew ?_ ?_ _) | (with_reducible refine Below.setCell ?_ ?_ _) | (with_reducible refine Below.drew ?_) | (with_reducible refine below_drewN ?_ _) | omega | (simp; done) | (simp; omega))), ?_⟩
        conv => lhs; whnf
        try rfl
      · exact fun _ => rfl
      simp only [List.nil_append, List.cons_append, Nat.reduceAdd]
      simp only [List.nil_append, List.cons_append, Nat.reduceAdd, fillPuts, Act.put, List.setIfInBounds_toArray, List.set_cons_zero, List.set_cons_succ]
      rintro U W hC ⟨h0, h1, h2, h3, h4, h5, h6, h7, h8, h9, h10, h11, h12, -⟩ -
      simp only [h0, h1, h2, h3, h4, h5, h6, h7, h8, h9, h10, h11, h12]
      have hRW := HR.out.keep0 hC
      have HRW := Lib.hid hRW
      have HCW := Lib.hid (HC.out.below hC)
      have d4 := hRW.c4
      have g4 := hRW.fz 4
      have dl := hRW.lt
      clear h0 h1 h2 h3 h4 h5 h6 h7 h8 h9 h10 h11 h12 hC hRW HR HC c4 hl
      go_upto_region 7 with fail
      refine cut_world (fun W => RdAt c { taken := s.taken, raws := s.raws, rng := R, val := v - min fp v } W ∧ Chg [c.rb] w W) ⟨HRW.out.set4 (v - min fp v), HCW.out.setCell _ (by simp)⟩ ?_
      clear HRW HCW d4 g4 dl
      rintro V2 ⟨hR, hC⟩
      have HR := Lib.hid hR
      have HC := Lib.hid hC
      have c3 := hR.c3
      have c4 := hR.c4
      have hl := hR.lt
      simp only at c3 c4
      clear hR hC
      obtain ⟨v2, hv2⟩ : ∃ x, v - min fp v = x := ⟨_, rfl⟩
      rw [hv2] at m0 m1 HCUT HR c4
      clear hv2
      have k0 : 0 ≤ R - 1 := by omega
      have k1 : R - 1 ≤ 16777216 := by omega
      have k2 : v2 ≤ 16777216 := by omega
      have k3 : 0 ≤ min v2 (R - 1) := by omega
      have k4 : min v2 (R - 1) ≤ 16777216 := by omega
      refine wp_region_inv [] (fun W => Below V2.heap.size V2 W) (fun W W' => Below W.heap.size W W') 13 (by kernel_rfl) (by kernel_rfl) (by kernel_rfl) ((Below.refl _ _).drew) (fun W W' h h' => h.trans (h'.mono h.size)) (fun _ _ h => h.size) ?_
      simp only [List.take_succ_cons, List.take_zero, List.drop_succ_cons, List.drop_zero]
      refine wpInv_det (by kernel_rfl) (by kernel_rfl) ?_
      apply Exists.intro
      refine ⟨?_, ?_, ?_⟩
      · intro U W hC hH
        have hc1 := (bcell hC).1
        have hf1 := (bcell hC).2
        simp only [HypsU, predsOf, Region.binds, List.filterMap_cons, List.filterMap_nil, if_true, List.nil_append, List.cons_append, List.getD_cons_zero, List.getD_cons_succ] at hH
        simp only [fillPuts, Act.put, List.setIfInBounds_toArray, List.set_cons_zero, List.set_cons_succ, Nat.reduceAdd]
        go_wp2_with fail
        refine ⟨rfl, rfl, by (repeat' (first | (with_reducible exact Below.refl _ _) | (with_reducible assumption) | (with_reducible refine Below.alloc ?_ ?_ _) | (with_reducible refine below_grew ?_ ?_ _) | (with_reducible refine Below.setCell ?_ ?_ _) | (with_reducible refine Below.drew ?_) | (with_reducible refine below_drewN ?_ _) | omega | (simp; done) | (simp; omega))), ?_⟩
        conv => lhs; whnf
        try rfl
      · exact fun _ => rfl
      simp only [List.nil_append, List.cons_append, Nat.reduceAdd]
      refine wpInv_det (by kernel_rfl) (by kernel_rfl) ?_
      apply Exists.intro
      refine ⟨?_, ?_, ?_⟩
      · intro U W hC hH
        have hc1 := (bcell hC).1
        have hf1 := (bcell hC).2
        simp only [HypsU, predsOf, Region.binds, List.filterMap_cons, List.filterMap_nil, if_true, List.nil_append, List.cons_append, List.getD_cons_zero, List.getD_cons_succ] at hH
        simp only [fillPuts, Act.put, List.setIfInBounds_toArray, List.set_cons_zero, List.set_cons_succ, Nat.reduceAdd]
        go_wp2_with fail
        refine ⟨rfl, rfl, by (repeat' (first | (with_reducible exact Below.refl _ _) | (with_reducible assumption) | (with_reducible refine Below.alloc ?_ ?_ _) | (with_reducible refine below_grew ?_ ?_ _) | (with_reducible refine Below.setCell ?_ ?_ _) | (with_reducible refine Below.drew ?_) | (with_reducible refine below_drewN ?_ _) | omega | (simp; done) | (simp; omega))), ?_⟩
        conv => lhs; whnf
        try rfl
      · exact fun _ => rfl
      simp only [List.nil_append, List.cons_append, Nat.reduceAdd]
      refine wpInv_det (by kernel_rfl) (by kernel_rfl) ?_
      apply Exists.intro
      refine ⟨?_, ?_, ?_⟩
      · intro U W hC hH
        have hc1 := (bcell hC).1
        have hf1 := (bcell hC).2
        simp only [HypsU, predsOf, Region.binds, List.filterMap_cons, List.filterMap_nil, if_true, List.nil_append, List.cons_append, List.getD_cons_zero, List.getD_cons_succ] at hH
        simp only [fillPuts, Act.put, List.setIfInBounds_toArray, List.set_cons_zero, List.set_cons_succ, Nat.reduceAdd]
        go_wp2_with fail
        refine ⟨rfl, rfl, by (repeat' (first | (with_reducible exact Below.refl _ _) | (with_reducible assumption) | (with_reducible refine Below.alloc ?_ ?_ _) | (with_reducible refine below_grew ?_ ?_ _) | (with_reducible refine Below.setCell ?_ ?_ _) | (with_reducible refine Below.drew ?_) | (with_reducible refine below_drewN ?_ _) | omega | (simp; done) | (simp; omega))), ?_⟩
        conv => lhs; whnf
        try rfl
      · exact fun _ => rfl
      simp only [List.nil_append, List.cons_append, Nat.reduceAdd]
      refine wpInv_det (by kernel_rfl) (by kernel_rfl) ?_
      apply Exists.intro
      refine ⟨?_, ?_, ?_⟩
      · intro U W hC hH
        have hc1 := (bcell hC).1
        have hf1 := (bcell hC).2
        simp only [HypsU, predsOf, Region.binds, List.filterMap_cons, List.filterMap_nil, if_true, List.nil_append, List.cons_append, List.getD_cons_zero, List.getD_cons_succ] at hH
        simp only [fillPuts, Act.put, List.setIfInBounds_toArray, List.set_cons_zero, List.set_cons_succ, Nat.reduceAdd]
        go_wp2_with fail
        refine ⟨rfl, rfl, by (repeat' (first | (with_reducible exact Below.refl _ _) | (with_reducible assumption) | (with_reducible refine Below.alloc ?_ ?_ _) | (with_reducible refine below_grew ?_ ?_ _) | (with_reducible refine Below.setCell ?_ ?_ _) | (with_reducible refine Below.drew ?_) | (with_reducible refine below_drewN ?_ _) | omega | (simp; done) | (simp; omega))), ?_⟩
        conv => lhs; whnf
        try rfl
      · exact fun _ => rfl
      simp only [List.nil_append, List.cons_append, Nat.reduceAdd]
      refine wpInv_det (by kernel_rfl) (by kernel_rfl) ?_
      apply Exists.intro
      refine ⟨?_, ?_, ?_⟩
      · intro U W hC hH
        have hc1 := (bcell hC).1
        have hf1 := (bcell hC).2
        simp only [HypsU, predsOf, Region.binds, List.filterMap_cons, List.filterMap_nil, if_true, List.nil_append, List.cons_append, List.getD_cons_zero, List.getD_cons_succ] at hH
        simp only [fillPuts, Act.put, List.setIfInBounds_toArray, List.set_cons_zero, List.set_cons_succ, Nat.reduceAdd]
        go_wp2_with fail
        refine ⟨rfl, rfl, by (repeat' (first | (with_reducible exact Below.refl _ _) | (with_reducible assumption) | (with_reducible refine Below.alloc ?_ ?_ _) | (with_reducible refine below_grew ?_ ?_ _) | (with_reducible refine Below.setCell ?_ ?_ _) | (with_reducible refine Below.drew ?_) | (with_reducible refine below_drewN ?_ _) | omega | (simp; done) | (simp; omega))), ?_⟩
        conv => lhs; whnf
        try rfl
      · exact fun _ => rfl
      simp only [List.nil_append, List.cons_append, Nat.reduceAdd]
      refine wpInv_det (by kernel_rfl) (by kernel_rfl) ?_
      apply Exists.intro
      refine ⟨?_, ?_, ?_⟩
      · intro U W hC hH
        have hc1 := (bcell hC).1
        have hf1 := (bcell hC).2
        simp only [HypsU, predsOf, Region.binds, List.filterMap_cons, List.filterMap_nil, if_true, List.nil_append, List.cons_append, List.getD_cons_zero, List.getD_cons_succ] at hH
        simp only [fillPuts, Act.put, List.setIfInBounds_toArray, List.set_cons_zero, List.set_cons_succ, Nat.reduceAdd]
        go_wp2_with fail
        refine ⟨rfl, rfl, by (repeat' (first | (with_reducible exact Below.refl _ _) | (with_reducible assumption) | (with_reducible refine Below.alloc ?_ ?_ _) | (with_reducible refine below_grew ?_ ?_ _) | (with_reducible refine Below.setCell ?_ ?_ _) | (with_reducible refine Below.drew ?_) | (with_reducible refine below_drewN ?_ _) | omega | (simp; done) | (simp; omega))), ?_⟩
        conv => lhs; whnf
        try rfl
      · exact fun _ => rfl
      simp only [List.nil_append, List.cons_append, Nat.reduceAdd]
      refine wpInv_det (by kernel_rfl) (by kernel_rfl) ?_
      apply Exists.intro
      refine ⟨?_, ?_, ?_⟩
      · intro U W hC hH
        have hc1 := (bcell hC).1
        have hf1 := (bcell hC).2
        simp only [HypsU, predsOf, Region.binds, List.filterMap_cons, List.filterMap_nil, if_true, List.nil_append, List.cons_append, List.getD_cons_zero, List.getD_cons_succ] at hH
        simp only [fillPuts, Act.put, List.setIfInBounds_toArray, List.set_cons_zero, List.set_cons_succ, Nat.reduceAdd]
        go_wp2_with fail
        refine ⟨rfl, rfl, by (repeat' (first | (with_reducible exact Below.refl _ _) | (with_reducible assumption) | (with_reducible refine Below.alloc ?_ ?_ _) | (with_reducible refine below_grew ?_ ?_ _) | (with_reducible refine Below.setCell ?_ ?_ _) | (with_reducible refine Below.drew ?_) | (with_reducible refine below_drewN ?_ _) | omega | (simp; done) | (simp; omega))), ?_⟩
        conv => lhs; whnf
        try rfl
      · exact fun _ => rfl
      simp only [List.nil_append, List.cons_append, Nat.reduceAdd]
      refine wpInv_det (by kernel_rfl) (by kernel_rfl) ?_
      apply Exists.intro
      refine ⟨?_, ?_, ?_⟩
      · intro U W hC hH
        have hc1 := (bcell hC).1
        have hf1 := (bcell hC).2
        simp only [HypsU, predsOf, Region.binds, List.filterMap_cons, List.filterMap_nil, if_true, List.nil_append, List.cons_append, List.getD_cons_zero, List.getD_cons_succ] at hH
        simp only [fillPuts, Act.put, List.setIfInBounds_toArray, List.set_cons_zero, List.set_cons_succ, Nat.reduceAdd]
        go_wp2_with fail
        refine ⟨rfl, rfl, by (repeat' (first | (with_reducible exact Below.refl _ _) | (with_reducible assumption) | (with_reducible refine Below.alloc ?_ ?_ _) | (with_reducible refine below_grew ?_ ?_ _) | (with_reducible refine Below.setCell ?_ ?_ _) | (with_reducible refine Below.drew ?_) | (with_reducible refine below_drewN ?_ _) | omega | (simp; done) | (simp; omega))), ?_⟩
        conv => lhs; whnf
        try rfl
      · exact fun _ => rfl
      simp only [List.nil_append, List.cons_append, Nat.reduceAdd]
      refine wpInv_det (by kernel_rfl) (by kernel_rfl) ?_
      apply Exists.intro
      refine ⟨?_, ?_, ?_⟩
      · intro U W hC hH
        have hc1 := (bcell hC).1
        have hf1 := (bcell hC).2
        simp only [HypsU, predsOf, Region.binds, List.filterMap_cons, List.filterMap_nil, if_true, List.nil_append, List.cons_append, List.getD_cons_zero, List.getD_cons_succ] at hH
        simp only [fillPuts, Act.put, List.setIfInBounds_toArray, List.set_cons_zero, List.set_cons_succ, Nat.reduceAdd]
        go_wp2_with fail
        refine ⟨rfl, rfl, by (repeat' (first | (with_reducible exact Below.refl _ _) | (with_reducible assumption) | (with_reducible refine Below.alloc ?_ ?_ _) | (with_reducible refine below_grew ?_ ?_ _) | (with_reducible refine Below.setCell ?_ ?_ _) | (with_reducible refine Below.drew ?_) | (with_reducible refine below_drewN ?_ _) | omega | (simp; done) | (simp; omega))), ?_⟩
        conv => lhs; whnf
        try rfl
      · exact fun _ => rfl
      simp only [List.nil_append, List.cons_append, Nat.reduceAdd]
      refine wpInv_det (by kernel_rfl) (by kernel_rfl) ?_
      apply Exists.intro
      refine ⟨?_, ?_, ?_⟩
      · intro U W hC hH
        have hc1 := (bcell hC).1
        have hf1 := (bcell hC).2
        simp only [HypsU, predsOf, Region.binds, List.filterMap_cons, List.filterMap_nil, if_true, List.nil_append, List.cons_append, List.getD_cons_zero, List.getD_cons_succ] at hH
        simp only [fillPuts, Act.put, List.setIfInBounds_toArray, List.set_cons_zero, List.set_cons_succ, Nat.reduceAdd]
        go_wp2_with fail
        refine ⟨rfl, rfl, by (repeat' (first | (with_reducible exact Below.refl _ _) | (with_reducible assumption) | (with_reducible refine Below.alloc ?_ ?_ _) | (with_reducible refine below_grew ?_ ?_ _) | (with_reducible refine Below.setCell ?_ ?_ _) | (with_reducible refine Below.drew ?_) | (with_reducible refine below_drewN ?_ _) | omega | (simp; done) | (simp; omega))), ?_⟩
        conv => lhs; whnf
        try rfl
      · exact fun _ => rfl
      simp only [List.nil_append, List.cons_append, Nat.reduceAdd]
      refine wpInv_det (by kernel_rfl) (by kernel_rfl) ?_
      apply Exists.intro
      refine ⟨?_, ?_, ?_⟩
      · intro U W hC hH
        have hc1 := (bcell hC).1
        have hf1 := (bcell hC).2
        simp only [HypsU, predsOf, Region.binds, List.filterMap_cons, List.filterMap_nil, if_true, List.nil_append, List.cons_append, List.getD_cons_zero, List.getD_cons_succ] at hH
        simp only [fillPuts, Act.put, List.setIfInBounds_toArray, List.set_cons_zero, List.set_cons_succ, Nat.reduceAdd]
        go_wp2_with fail
        refine ⟨rfl, rfl, by (repeat' (first | (with_reducible exact Below.refl _ _) | (with_reducible assumption) | (with_reducible refine Below.alloc ?_ ?_ _) | (with_reducible refine below_grew ?_ ?_ _) | (with_reducible refine Below.setCell ?_ ?_ _) | (with_reducible refine Below.drew ?_) | (with_reducible refine below_drewN ?_ _) | omega | (simp; done) | (simp; omega))), ?_⟩
        conv => lhs; whnf
        try rfl
      · exact fun _ => rfl
      simp only [List.nil_append, List.cons_append, Nat.reduceAdd]
      refine wpInv_det (by kernel_rfl) (by kernel_rfl) ?_
      apply Exists.intro
      refine ⟨?_, ?_, ?_⟩
      · intro U W hC hH
        have hc1 := (bcell hC).1
        have hf1 := (bcell hC).2
        simp only [HypsU, predsOf, Region.binds, List.filterMap_cons, List.filterMap_nil, if_true, List.nil_append, List.cons_append, List.getD_cons_zero, List.getD_cons_succ] at hH
        simp only [fillPuts, Act.put, List.setIfInBounds_toArray, List.set_cons_zero, List.set_cons_succ, Nat.reduceAdd]
        go_wp2_with fail
        refine ⟨rfl, rfl, by (repeat' (first | (with_reducible exact Below.refl _ _) | (with_reducible assumption) | (with_reducible refine Below.alloc ?_ ?_ _) | (with_reducible refine below_grew ?_ ?_ _) | (with_reducible refine Below.setCell ?_ ?_ _) | (with_reducible refine Below.drew ?_) | (with_reducible refine below_drewN ?_ _) | omega | (simp; done) | (simp; omega))), ?_⟩
        conv => lhs; whnf
        try rfl
      · exact fun _ => rfl
      simp only [List.nil_append, List.cons_append, Nat.reduceAdd]
      refine wpInv_det (by kernel_rfl) (by kernel_rfl) ?_
      apply Exists.intro
      refine ⟨?_, ?_, ?_⟩
      · intro U W hC hH
        have hc1 := (bcell hC).1
        have hf1 := (bcell hC).2
        simp only [HypsU, predsOf, Region.binds, List.filterMap_cons, List.filterMap_nil, if_true, List.nil_append, List.cons_append, List.getD_cons_zero, List.getD_cons_succ] at hH
        simp only [fillPuts, Act.put, List.setIfInBounds_toArray, List.set_cons_zero, List.set_cons_succ, Nat.reduceAdd]
        go_wp2_with fail
        refine ⟨rfl, rfl, by (repeat' (first | (with_reducible exact Below.refl _ _) | (with_reducible assumption) | (with_reducible refine Below.alloc ?_ ?_ _) | (with_reducible refine below_grew ?_ ?_ _) | (with_reducible refine Below.setCell ?_ ?_ _) | (with_reducible refine Below.drew ?_) | (with_reducible refine below_drewN ?_ _) | omega | (simp; done) | (simp; omega))), ?_⟩
        conv => lhs; whnf
        try rfl
      · exact fun _ => rfl
      simp only [List.nil_append, List.cons_append, Nat.reduceAdd]
      simp only [List.nil_append, List.cons_append, Nat.reduceAdd, fillPuts, Act.put, List.setIfInBounds_toArray, List.set_cons_zero, List.set_cons_succ]
      rintro U W hC ⟨h0, h1, h2, h3, h4, h5, h6, h7, h8, h9, h10, h11, h12, -⟩ -
      simp only [h0, h1, h2, h3, h4, h5, h6, h7, h8, h9, h10, h11, h12]
      have hRW := HR.out.keep0 hC
      have HRW := Lib.hid hRW
      have HCW := Lib.hid (HC.out.below hC)
      have d4 := hRW.c4
      have g4 := hRW.fz 4
      have dl := hRW.lt
      clear h0 h1 h2 h3 h4 h5 h6 h7 h8 h9 h10 h11 h12 hC hRW HR HC c4 c3 hl
      go_upto_region 8 with fail
      refine cut_world (fun W => RdAt c (cutS s f e t) W ∧ Chg [c.rb] w W) ⟨by rw [HCUT.out]; exact HRW.out.set4 (min v2 (R - 1)), HCW.out.setCell _ (by simp)⟩ ?_
      clear HRW HCW d4 g4 dl k0 k1 k2 k3 k4 m0 m1 m2 HCUT q1 q2 q5 q6 q7 q8 HVV HRR
      rintro V3 ⟨hR, hC⟩
      have HR := Lib.hid hR
      have HC := Lib.hid hC
      clear hR hC
      generalize cutS s f e t = S0 at *
      go_loopw [] (fun wr => ∃ S : RS, Reach c E S ∧ RdAt c S wr ∧ Chg [c.rb] w wr) (fun wr => rngAt c.rb wr)
      case atStart => exact ⟨S0, hRE.out, HR.out, HC.out⟩
      case round =>
        clear HR HC hRE
        obtain ⟨S, hre, hR, hC⟩ := hrel
        have HRE := Lib.hid hre
        have HR := Lib.hid hR
        have HC := Lib.hid hC
        have c3 := hR.c3
        have f3 := hR.fz 3
        have hl := hR.lt
        have hst := hre.taken
        obtain ⟨-, s0, s1, z0, z1⟩ := hre
        clear hR hC
        by_cases hrs : S.rng ≤ 65536
        · have HNX := Lib.hid (HRE.out.step HOKE.out HB.out hrs)
          have HNS := Lib.hid (show normS c S = { taken := S.taken + 1, raws := S.raws, rng := S.rng * 256, val := S.val * 256 + c.byte S.taken } by unfold normS; rw [if_pos hrs])
          have HRG := Lib.hid (rngAt_of HR.out)
          obtain ⟨x, hx⟩ : ∃ x, S.rng = x := ⟨_, rfl⟩
          rw [hx] at c3 s0 s1 z1 hrs HNS HRG
          go_upto_region 10 with fail
          refine cut_world (fun W => RdAt c { taken := S.taken, raws := S.raws, rng := x * 256, val := S.val } W ∧ Chg [c.rb] w W) ⟨HR.out.set3 (x * 256), HC.out.setCell _ (by simp)⟩ ?_
          clear HR HC c3 f3 hl
          rintro V4 ⟨hR, hC⟩
          have HR4 := Lib.hid hR
          have HC4 := Lib.hid hC
          have hbb := HB.out S.taken
          have hl := hR.lt
          clear hR hC
          have HNXT := Lib.hid (fun W hp => rdNext c { taken := S.taken, raws := S.raws, rng := x * 256, val := S.val } (by simp only; omega) W hp hn)
          have HF := Lib.hid (fun (b : Bool) W (hp : RdAt c { taken := if b = true then S.taken + 1 else S.taken, raws := S.raws, rng := x * 256, val := S.val } W) => (show W.cell? ⟨c.rb, 4, none⟩ = some (.int .u32 S.val) from hp.c4))
          have HPD := Lib.hid (fun (b : Bool) W W' (hb : Below W.heap.size W W') (hp : RdAt c { taken := if b = true then S.taken + 1 else S.taken, raws := S.raws, rng := x * 256, val := S.val } W) => hp.keep0 hb)
          obtain ⟨z, hz⟩ : ∃ z, c.byte S.taken = z := ⟨_, rfl⟩
          rw [hz] at hbb HNS
          have HZ := Lib.hid hz
          obtain ⟨b0, b1⟩ := hbb
          clear hz
          refine region_one [c.rb] 7 11 (fun b W => RdAt c { taken := if b = true then S.taken + 1 else S.taken, raws := S.raws, rng := x * 256, val := S.val } W) (by kernel_rfl) (by kernel_rfl) HR4.out (fun W h => h.keep0 (Below.refl _ _).drew) HPD.out ?_
          simp only [List.take_succ_cons, List.take_zero, List.drop_succ_cons, List.drop_zero]
          refine RI.wpInv_det (by kernel_rfl) (by kernel_rfl) ?_
          apply Exists.intro
          refine ⟨?_, ?_, ?_⟩
          · rintro D U W hDi ⟨hC, hP⟩ hH
            have hF := HF.out _ W hP
            simp only [HypsU, predsOf, Region.binds, List.filterMap_cons, List.filterMap_nil, if_true, List.nil_append, List.cons_append, List.getD_cons_zero, List.getD_cons_succ] at hH
            simp only [fillPuts, Act.put, List.setIfInBounds_toArray, List.set_cons_zero, List.set_cons_succ, Nat.reduceAdd]
            go_wp2_with fail
            refine ⟨rfl, rfl, (show Below W.heap.size W _ from by (repeat' (first | (with_reducible exact Below.refl _ _) | (with_reducible assumption) | (with_reducible refine Below.alloc ?_ ?_ _) | (with_reducible refine below_grew ?_ ?_ _) | (with_reducible refine Below.setCell ?_ ?_ _) | (with_reducible refine Below.drew ?_) | (with_reducible refine below_drewN ?_ _) | omega | (simp; done) | (simp; omega)))), ?_⟩
            conv => lhs; whnf
            try rfl
          · exact fun _ => rfl
          simp only [List.nil_append, List.cons_append, Nat.reduceAdd]
          refine RI.wpInv_det (by kernel_rfl) (by kernel_rfl) ?_
          apply Exists.intro
          refine ⟨?_, ?_, ?_⟩
          · rintro D U W hDi ⟨hC, hP⟩ hH
            have hF := HF.out _ W hP
            simp only [HypsU, predsOf, Region.binds, List.filterMap_cons, List.filterMap_nil, if_true, List.nil_append, List.cons_append, List.getD_cons_zero, List.getD_cons_succ] at hH
            simp only [fillPuts, Act.put, List.setIfInBounds_toArray, List.set_cons_zero, List.set_cons_succ, Nat.reduceAdd]
            go_wp2_with fail
            refine ⟨rfl, rfl, (show Below W.heap.size W _ from by (repeat' (first | (with_reducible exact Below.refl _ _) | (with_reducible assumption) | (with_reducible refine Below.alloc ?_ ?_ _) | (with_reducible refine below_grew ?_ ?_ _) | (with_reducible refine Below.setCell ?_ ?_ _) | (with_reducible refine Below.drew ?_) | (with_reducible refine below_drewN ?_ _) | omega | (simp; done) | (simp; omega)))), ?_⟩
            conv => lhs; whnf
            try rfl
          · exact fun _ => rfl
          simp only [List.nil_append, List.cons_append, Nat.reduceAdd]
          refine RI.wpInv_det (by kernel_rfl) (by kernel_rfl) ?_
          apply Exists.intro
          refine ⟨?_, ?_, ?_⟩
          · rintro D U W hDi ⟨hC, hP⟩ hH
            have hF := HF.out _ W hP
            simp only [HypsU, predsOf, Region.binds, List.filterMap_cons, List.filterMap_nil, if_true, List.nil_append, List.cons_append, List.getD_cons_zero, List.getD_cons_succ] at hH
            simp only [fillPuts, Act.put, List.setIfInBounds_toArray, List.set_cons_zero, List.set_cons_succ, Nat.reduceAdd]
            go_wp2_with fail
            refine ⟨rfl, rfl, (show Below W.heap.size W _ from by (repeat' (first | (with_reducible exact Below.refl _ _) | (with_reducible assumption) | (with_reducible refine Below.alloc ?_ ?_ _) | (with_reducible refine below_grew ?_ ?_ _) | (with_reducible refine Below.setCell ?_ ?_ _) | (with_reducible refine Below.drew ?_) | (with_reducible refine below_drewN ?_ _) | omega | (simp; done) | (simp; omega)))), ?_⟩
            conv => lhs; whnf
            try rfl
          · exact fun _ => rfl
          simp only [List.nil_append, List.cons_append, Nat.reduceAdd]
          refine RI.wpInv_det (by kernel_rfl) (by kernel_rfl) ?_
          apply Exists.intro
          refine ⟨?_, ?_, ?_⟩
          · rintro D U W hDi ⟨hC, hP⟩ hH
            have hF := HF.out _ W hP
            simp only [HypsU, predsOf, Region.binds, List.filterMap_cons, List.filterMap_nil, if_true, List.nil_append, List.cons_append, List.getD_cons_zero, List.getD_cons_succ] at hH
            simp only [fillPuts, Act.put, List.setIfInBounds_toArray, List.set_cons_zero, List.set_cons_succ, Nat.reduceAdd]
            go_wp2_with fail
            refine ⟨rfl, rfl, (show Below W.heap.size W _ from by (repeat' (first | (with_reducible exact Below.refl _ _) | (with_reducible assumption) | (with_reducible refine Below.alloc ?_ ?_ _) | (with_reducible refine below_grew ?_ ?_ _) | (with_reducible refine Below.setCell ?_ ?_ _) | (with_reducible refine Below.drew ?_) | (with_reducible refine below_drewN ?_ _) | omega | (simp; done) | (simp; omega)))), ?_⟩
            conv => lhs; whnf
            try rfl
          · exact fun _ => rfl
          simp only [List.nil_append, List.cons_append, Nat.reduceAdd]
          refine RI.wpInv_det (by kernel_rfl) (by kernel_rfl) ?_
          apply Exists.intro
          refine ⟨?_, ?_, ?_⟩
          · rintro D U W hDi ⟨hC, hP⟩ hH
            have hF := HF.out _ W hP
            simp only [HypsU, predsOf, Region.binds, List.filterMap_cons, List.filterMap_nil, if_true, List.nil_append, List.cons_append, List.getD_cons_zero, List.getD_cons_succ] at hH
            simp only [fillPuts, Act.put, List.setIfInBounds_toArray, List.set_cons_zero, List.set_cons_succ, Nat.reduceAdd]
            go_wp2_with fail
            refine ⟨rfl, rfl, (show Below W.heap.size W _ from by (repeat' (first | (with_reducible exact Below.refl _ _) | (with_reducible assumption) | (with_reducible refine Below.alloc ?_ ?_ _) | (with_reducible refine below_grew ?_ ?_ _) | (with_reducible refine Below.setCell ?_ ?_ _) | (with_reducible refine Below.drew ?_) | (with_reducible refine below_drewN ?_ _) | omega | (simp; done) | (simp; omega)))), ?_⟩
            conv => lhs; whnf
            try rfl
          · exact fun _ => rfl
          simp only [List.nil_append, List.cons_append, Nat.reduceAdd]
          refine RI.wpInv_det (by kernel_rfl) (by kernel_rfl) ?_
          apply Exists.intro
          refine ⟨?_, ?_, ?_⟩
          · rintro D U W hDi ⟨hC, hP⟩ hH
            have hF := HF.out _ W hP
            simp only [HypsU, predsOf, Region.binds, List.filterMap_cons, List.filterMap_nil, if_true, List.nil_append, List.cons_append, List.getD_cons_zero, List.getD_cons_succ] at hH
            simp only [fillPuts, Act.put, List.setIfInBounds_toArray, List.set_cons_zero, List.set_cons_succ, Nat.reduceAdd]
            (try simp only [hH]); go_wp2_with fail
            refine ⟨rfl, rfl, (show Below W.heap.size W _ from by (repeat' (first | (with_reducible exact Below.refl _ _) | (with_reducible assumption) | (with_reducible refine Below.alloc ?_ ?_ _) | (with_reducible refine below_grew ?_ ?_ _) | (with_reducible refine Below.setCell ?_ ?_ _) | (with_reducible refine Below.drew ?_) | (with_reducible refine below_drewN ?_ _) | omega | (simp; done) | (simp; omega)))), ?_⟩
            conv => lhs; whnf
            try rfl
          · exact fun _ => rfl
          simp only [List.nil_append, List.cons_append, Nat.reduceAdd]
          refine RI.wpInv_det (by kernel_rfl) (by kernel_rfl) ?_
          apply Exists.intro
          refine ⟨?_, ?_, ?_⟩
          · rintro D U W hDi ⟨hC, hP⟩ hH
            have hF := HF.out _ W hP
            simp only [HypsU, predsOf, Region.binds, List.filterMap_cons, List.filterMap_nil, if_true, List.nil_append, List.cons_append, List.getD_cons_zero, List.getD_cons_succ] at hH
            simp only [fillPuts, Act.put, List.setIfInBounds_toArray, List.set_cons_zero, List.set_cons_succ, Nat.reduceAdd]
            go_wp2_with fail
            refine ⟨rfl, rfl, (show Below W.heap.size W _ from by (repeat' (first | (with_reducible exact Below.refl _ _) | (with_reducible assumption) | (with_reducible refine Below.alloc ?_ ?_ _) | (with_reducible refine below_grew ?_ ?_ _) | (with_reducible refine Below.setCell ?_ ?_ _) | (with_reducible refine Below.drew ?_) | (with_reducible refine below_drewN ?_ _) | omega | (simp; done) | (simp; omega)))), ?_⟩
            conv => lhs; whnf
            try rfl
          · exact fun _ => rfl
          simp only [List.nil_append, List.cons_append, Nat.reduceAdd]
          refine RI.wpInv_det (by kernel_rfl) (by kernel_rfl) ?_
          apply Exists.intro
          refine ⟨?_, ?_, ?_⟩
          · rintro D U W hDi ⟨hC, hP⟩ hH
            rw [hDi] at hP
            simp only [HypsU, predsOf, Region.binds, List.filterMap_cons, List.filterMap_nil, if_true, List.nil_append, List.cons_append, List.getD_cons_zero, List.getD_cons_succ] at hH
            simp only [fillPuts, Act.put, List.setIfInBounds_toArray, List.set_cons_zero, List.set_cons_succ, Nat.reduceAdd]
            (try simp only [hH]); go_wp2_with fail; refine (HNXT.out W hP).mono ?_; rintro e2 w' ⟨rfl, hp1, hg1⟩; rw [HZ.out]; go_wp2_with fail
            refine ⟨rfl, rfl, (show Chg _ _ _ ∧ _ from ⟨hg1, hp1⟩), ?_⟩
            conv => lhs; whnf
            try rfl
          · exact fun _ => rfl
          simp only [List.nil_append, List.cons_append, Nat.reduceAdd]
          refine RI.wpInv_det (by kernel_rfl) (by kernel_rfl) ?_
          apply Exists.intro
          refine ⟨?_, ?_, ?_⟩
          · rintro D U W hDi ⟨hC, hP⟩ hH
            have hF := HF.out _ W hP
            simp only [HypsU, predsOf, Region.binds, List.filterMap_cons, List.filterMap_nil, if_true, List.nil_append, List.cons_append, List.getD_cons_zero, List.getD_cons_succ] at hH
            simp only [fillPuts, Act.put, List.setIfInBounds_toArray, List.set_cons_zero, List.set_cons_succ, Nat.reduceAdd]
            (try simp only [hH]); go_wp2_with fail
            refine ⟨rfl, rfl, (show Below W.heap.size W _ from by (repeat' (first | (with_reducible exact Below.refl _ _) | (with_reducible assumption) | (with_reducible refine Below.alloc ?_ ?_ _) | (with_reducible refine below_grew ?_ ?_ _) | (with_reducible refine Below.setCell ?_ ?_ _) | (with_reducible refine Below.drew ?_) | (with_reducible refine below_drewN ?_ _) | omega | (simp; done) | (simp; omega)))), ?_⟩
            conv => lhs; whnf
            try rfl
          · exact fun _ => rfl
          simp only [List.nil_append, List.cons_append, Nat.reduceAdd]
          refine RI.wpInv_det (by kernel_rfl) (by kernel_rfl) ?_
          apply Exists.intro
          refine ⟨?_, ?_, ?_⟩
          · rintro D U W hDi ⟨hC, hP⟩ hH
            have hF := HF.out _ W hP
            simp only [HypsU, predsOf, Region.binds, List.filterMap_cons, List.filterMap_nil, if_true, List.nil_append, List.cons_append, List.getD_cons_zero, List.getD_cons_succ] at hH
            simp only [fillPuts, Act.put, List.setIfInBounds_toArray, List.set_cons_zero, List.set_cons_succ, Nat.reduceAdd]
            go_wp2_with fail
            refine ⟨rfl, rfl, (show Below W.heap.size W _ from by (repeat' (first | (with_reducible exact Below.refl _ _) | (with_reducible assumption) | (with_reducible refine Below.alloc ?_ ?_ _) | (with_reducible refine below_grew ?_ ?_ _) | (with_reducible refine Below.setCell ?_ ?_ _) | (with_reducible refine Below.drew ?_) | (with_reducible refine below_drewN ?_ _) | omega | (simp; done) | (simp; omega)))), ?_⟩
            conv => lhs; whnf
            try rfl
          · exact fun _ => rfl
          simp only [List.nil_append, List.cons_append, Nat.reduceAdd]
          refine RI.wpInv_det (by kernel_rfl) (by kernel_rfl) ?_
          apply Exists.intro
          refine ⟨?_, ?_, ?_⟩
          · rintro D U W hDi ⟨hC, hP⟩ hH
            have hF := HF.out _ W hP
            simp only [HypsU, predsOf, Region.binds, List.filterMap_cons, List.filterMap_nil, if_true, List.nil_append, List.cons_append, List.getD_cons_zero, List.getD_cons_succ] at hH
            simp only [fillPuts, Act.put, List.setIfInBounds_toArray, List.set_cons_zero, List.set_cons_succ, Nat.reduceAdd]
            go_wp2_with fail
            refine ⟨rfl, rfl, (show Below W.heap.size W _ from by (repeat' (first | (with_reducible exact Below.refl _ _) | (with_reducible assumption) | (with_reducible refine Below.alloc ?_ ?_ _) | (with_reducible refine below_grew ?_ ?_ _) | (with_reducible refine Below.setCell ?_ ?_ _) | (with_reducible refine Below.drew ?_) | (with_reducible refine below_drewN ?_ _) | omega | (simp; done) | (simp; omega)))), ?_⟩
            conv => lhs; whnf
            try rfl
          · exact fun _ => rfl
          simp only [List.nil_append, List.cons_append, Nat.reduceAdd]
          simp only [List.nil_append, List.cons_append, Nat.reduceAdd, fillPuts, Act.put, List.setIfInBounds_toArray, List.set_cons_zero, List.set_cons_succ]
          rintro D U W hD ⟨hC, hP⟩ ⟨h0, h1, h2, h3, h4, h5, h6, h7, h8, h9, h10, -⟩ -
          rw [hD 7 (by omega)] at hP
          simp only [h0, h1, h2, h3, h4, h5, h6, h7, h8, h9, h10]
          have hP2 : RdAt c { taken := S.taken + 1, raws := S.raws, rng := x * 256, val := S.val } W := hP
          rw [or_byte S.val z z0 b0 b1 (by omega)]
          have HPW := Lib.hid hP2
          have HCW := Lib.hid (HC4.out.trans hC)
          have d4 := hP2.c4
          have g4 := hP2.fz 4
          have dl := hP2.lt
          have hmz : rngAt c.rb (W.setCell ⟨c.rb, 4, none⟩ (.int .u32 (S.val * 256 + z))) < rngAt c.rb wr := by
            rw [rngAt_of (hP2.set4 (S.val * 256 + z)), HRG.out]
            simp only
            omega
          have HMZ := Lib.hid hmz
          clear h0 h1 h2 h3 h4 h5 h6 h7 h8 h9 h10 hC hP hP2 HR4 HC4 HNXT HF HPD hl hmz
          go_wp2_with fail
          go_roundw
          case rel => exact ⟨normS c S, HNX.out, by rw [HNS.out]; exact HPW.out.set4 (S.val * 256 + z), HCW.out.setCell _ (by simp)⟩
          case measure => exact HMZ.out
        · have hse := HRE.out.done (by omega)
          have hrs' : 65536 < S.rng := by omega
          subst hse
          go_wp2_with fail
          go_end0
          exact ⟨rfl, HR.out, HC.out⟩
  · have HT := Lib.hid (show takeF c s f e t = s by unfold takeF; rw [if_neg hin])
    rw [HT.out]
    clear h hb hok
    by_cases h1 : 1 ≤ t ∧ t ≤ 4096
    · rw [decide_eq_true h1] at hri
      by_cases h2 : f < 0
      · clear h1 hin
        go_enter Tryd.func140, Tryd.ntmps140
        go_wp2_with fail
        refine (hri.out _).mono ?_
        rintro e1 w1 ⟨rfl, hb1⟩
        go_wp2_with fail
        refine bodyPost_ret (v := .tuple #[]) (results_none rfl _ _ _) rfl ⟨rfl, H.out.keep0 hb1, Chg.of_below hb1⟩
      · by_cases h3 : e ≤ f
        · clear h1 hin
          go_enter Tryd.func140, Tryd.ntmps140
          go_wp2_with fail
          refine (hri.out _).mono ?_
          rintro e1 w1 ⟨rfl, hb1⟩
          go_wp2_with fail
          refine bodyPost_ret (v := .tuple #[]) (results_none rfl _ _ _) rfl ⟨rfl, H.out.keep0 hb1, Chg.of_below hb1⟩
        · have h4 : t < e := by omega
          clear h1 hin
          go_enter Tryd.func140, Tryd.ntmps140
          go_wp2_with fail
          refine (hri.out _).mono ?_
          rintro e1 w1 ⟨rfl, hb1⟩
          go_wp2_with fail
          refine bodyPost_ret (v := .tuple #[]) (results_none rfl _ _ _) rfl ⟨rfl, H.out.keep0 hb1, Chg.of_below hb1⟩
    · rw [decide_eq_false h1] at hri
      clear h1 hin
      go_enter Tryd.func140, Tryd.ntmps140
      go_wp2_with fail
      refine (hri.out _).mono ?_
      rintro e1 w1 ⟨rfl, hb1⟩
      go_wp2_with fail
      refine bodyPost_ret (v := .tuple #[]) (results_none rfl _ _ _) rfl ⟨rfl, H.out.keep0 hb1, Chg.of_below hb1⟩
end Go.Proofs.YtbcdnbbpkikppaaDoor
end

section
namespace Go.Proofs.YtbcdnbbpkikppaaDoor
open Go.RowKit Go.BigFrame Go.Proofs.YtbcdnbbpkikppaaDoorW.PrintWords
set_option linter.unusedSimpArgs false
set_option linter.unusedVariables false
abbrev TBy := 22
/-- Bytes, where they lie. -/
def BytesAt (A : Option Addr) (n : Nat) (b : Nat → Int) (w : World) : Prop := 0 < n → ∃ g off, A = some ⟨g, off, none⟩ ∧ g < w.heap.size ∧ ∀ i, i < n → w.cell? ⟨g, off + i, none⟩ = some (.int .u8 (b i)) ∧ 0 ≤ b i ∧ b i ≤ 255
theorem BytesAt.keep {A n b} {w w' : World} (h : BytesAt A n b w) (hb : Below w.heap.size w w') : BytesAt A n b w' := fun hn => by
  obtain ⟨g, off, h1, h2, h3⟩ := h hn
  exact ⟨g, off, h1, Nat.lt_of_lt_of_le h2 hb.size, fun i hi => ⟨(hb.cell (p := ⟨g, off + i, none⟩) h2).trans (h3 i hi).1, (h3 i hi).2⟩⟩
theorem empty_row (Z : World) (e : TypeId) (size : Nat) : (Z.alloc (.cells #[] e)).ownsRow Z.heap.size e size (.slice (some ⟨Z.heap.size, 0, none⟩) 0 0) 0 [] :=
  ⟨by simp, .inr ⟨Z.heap.size, 0, #[], rfl, Nat.le_refl _, alloc_at _ _, Nat.le_refl _, Nat.zero_le _, by simp, by simp⟩⟩
theorem byteInfo : (Tryd.prog.info? 5).map (fun i => (i.zero, i.size, i.bytes)) = some (some (.int .u8 0), 1, 1) := by kernel_rfl
def byteL (b : Nat → Int) (n : Nat) : List Value := (List.range n).map fun i => .int .u8 (b i)
theorem byteL_at (b : Nat → Int) (n j : Nat) (hj : j < n) : (byteL b n)[j]? = some (.int .u8 (b j)) := by simp [byteL, hj]
set_option maxHeartbeats 2000000 in
set_option maxRecDepth 100000 in
theorem cloneBytes (A : Option Addr) (n cap : Nat) (b : Nat → Int) (hn : n ≤ 1000000) (w : World) (h : BytesAt A n b w) (hA : A = none → n = 0 ∧ cap = 0) :
    Calls Tryd.prog 43 #[.slice A n cap] w fun e w' => ∃ A' cap', e = .returned (.slice A' n cap') ∧ (0 < n → ∃ g, A' = some ⟨g, 0, none⟩ ∧ w.heap.size ≤ g ∧ g < w'.heap.size ∧ ∀ i, i < n → w'.cell? ⟨g, i, none⟩ = some (.int .u8 (b i)) ∧ 0 ≤ b i ∧ b i ≤ 255) ∧ Below w.heap.size w w' := by
  have H := Lib.hid h
  clear h
  cases A with
  | none =>
    obtain ⟨rfl, rfl⟩ := hA rfl
    have hq := fun w => Lib.run_eql_slice_nil (P := Tryd.prog) w TBy 5 none 0 0 0 0 Tryd.underlying22
    go_enter Tryd.func43, Tryd.ntmps43
    go_wp2_with fail
    go_ret
    refine ⟨?_, by (repeat' (first | (with_reducible exact Below.refl _ _) | (with_reducible assumption) | (with_reducible refine Below.alloc ?_ ?_ _) | (with_reducible refine below_grew ?_ ?_ _) | (with_reducible refine Below.setCell ?_ ?_ _) | (with_reducible refine Below.drew ?_) | (with_reducible refine below_drewN ?_ _) | omega | (simp; done) | (simp; omega)))⟩
    exact ⟨none, 0, rfl⟩
  | some ad =>
    clear hA
    obtain ⟨i0, hi0, hz0, hz1, hz2⟩ := info_parts byteInfo
    have HI0 := Lib.hid hi0
    have HZ0 := Lib.hid hz0
    have HZ1 := Lib.hid hz1
    have HZ2 := Lib.hid hz2
    have HNW := Lib.hid (show ∀ j u, (byteL b n)[j]? = some u → (w.alloc (.cells #[] 5)).cell? (ad.add j) = some u from fun j u hj => by
      have hjn : j < n := by have := (List.getElem?_eq_some_iff.1 hj).1; simpa [byteL] using this
      rw [byteL_at b n j hjn] at hj
      obtain ⟨g, off, hg, hgl, hc⟩ := H.out (by omega)
      simp only [Option.some.injEq] at hg
      subst hg
      rw [Addr.add_lit]
      have e1 : (w.alloc (.cells #[] 5)).cell? ⟨g, off + j, none⟩ = w.cell? ⟨g, off + j, none⟩ := by unfold World.cell?; rw [alloc_old _ _ _ hgl]
      rw [e1, (hc j hjn).1]
      exact hj)
    clear hi0 hz0 hz1 hz2
    have hq := fun w => Lib.run_eql_slice_nil (P := Tryd.prog) w TBy 5 (some ad) n cap 0 0 Tryd.underlying22
    go_enter Tryd.func43, Tryd.ntmps43
    go_wp2_with (at_builtin; refine wpList_append_own_at (w := w.alloc (.cells #[] 5)) rfl _ _ TBy rfl w.heap.size 5 i0 (.int .u8 0) 1 1 Tryd.underlying22 HI0.out HZ0.out HZ1.out HZ2.out rfl (by decide) (.slice (some ⟨w.heap.size, 0, none⟩) 0 0) 0 [] rfl ?hown ad n cap (byteL b n) rfl ?hl ?hnews ?h1 ?h63 ?hby ?hba ?_; (case hown => exact empty_row _ _ _); (case hl => simp [byteL]); (case hnews => exact HNW.out); (case h1 => exact fun u hu => by (obtain ⟨i, -, rfl⟩ := List.mem_map.1 hu; rfl)); (case h63 => exact maxLen_le (by omega)); (case hby => omega); (case hba => simp); intro v' w2 hown2 hgr2 hni hat; clear hni hat)
    rw [List.nil_append, Nat.zero_add] at hown2
    have hb2 : Below w.heap.size w w2 := ⟨hgr2.os, hgr2.tape, hgr2.output, Nat.le_trans (by simp) hgr2.size, fun i hi => (hgr2.block i (by simp; omega) (fun e => by simp [Value.ownBlock] at e; omega)).trans (alloc_old _ _ _ hi)⟩
    obtain ⟨A', c', rfl⟩ := own_slice' hown2
    have HR := Lib.hid (show 0 < n → ∃ g, A' = some ⟨g, 0, none⟩ ∧ w.heap.size ≤ g ∧ g < w2.heap.size ∧ ∀ i, i < n → w2.cell? ⟨g, i, none⟩ = some (.int .u8 (b i)) ∧ 0 ≤ b i ∧ b i ≤ 255 from fun hp => by
      obtain ⟨g, c, hv, hg, hgl⟩ := own_form hown2 hp
      simp only [Value.slice.injEq] at hv
      obtain ⟨rfl, -, rfl⟩ := hv
      obtain ⟨g0, off, -, -, hc⟩ := H.out hp
      refine ⟨g, rfl, hg, hgl, fun i hi => ⟨?_, (hc i hi).2⟩⟩
      have := hown2.cells (g := g) rfl i (.int .u8 (b i)) (by rw [byteL_at b n i hi])
      rw [Addr.add_lit, Nat.zero_add] at this
      exact this)
    have HB := Lib.hid hb2
    clear hown2 hb2 hgr2
    go_wp2_with fail
    go_ret
    exact ⟨A', c', rfl, HR.out, HB.out⟩
/-- The first bytes, as a number. -/
def valTo (c : RC) : Nat → Int
  | 0 => 0
  | k + 1 => valTo c k * 256 + c.byte k
theorem valTo_bd (c : RC) (hb : ∀ i, 0 ≤ c.byte i ∧ c.byte i ≤ 255) (k : Nat) (hk : k ≤ 3) : 0 ≤ valTo c k ∧ valTo c k ≤ 16777215 ∧ (k ≤ 2 → valTo c k ≤ 65535) := by
  have h0 := hb 0
  have h1 := hb 1
  have h2 := hb 2
  rcases (show k = 0 ∨ k = 1 ∨ k = 2 ∨ k = 3 by omega) with rfl | rfl | rfl | rfl <;> simp only [valTo] <;> omega
def startS (c : RC) : RS := { taken := 3, raws := 0, rng := 16777216, val := valTo c 3 }
set_option maxHeartbeats 4000000 in
set_option maxRecDepth 100000 in
theorem rdNew (A : Option Addr) (n cap : Nat) (b : Nat → Int) (hn : n ≤ 1000000) (w : World) (h : BytesAt A n b w) (hA : A = none → n = 0 ∧ cap = 0) :
    Calls Tryd.prog 19 #[.slice A n cap] w fun e w' => ∃ c : RC, e = .returned (.pointer (some ⟨c.rb, 0, none⟩)) ∧ c.n = n ∧ c.b = b ∧ w.heap.size ≤ c.rb ∧ (0 < n → w.heap.size ≤ c.g) ∧ RdAt c (startS c) w' ∧ Below w.heap.size w w' := by
  have hcl := Lib.hid (cloneBytes A n cap b hn w h hA)
  clear h hA
  go_enter Tryd.func19, Tryd.ntmps19
  go_wp2_with fail
  refine hcl.out.mono ?_
  rintro e w1 ⟨A', cap', rfl, hg, hb1⟩
  obtain ⟨g, hgg⟩ : ∃ g, 0 < n → A' = some ⟨g, 0, none⟩ ∧ w.heap.size ≤ g ∧ g < w1.heap.size ∧ ∀ i, i < n → w1.cell? ⟨g, i, none⟩ = some (.int .u8 (b i)) ∧ 0 ≤ b i ∧ b i ≤ 255 := by
    by_cases hp : 0 < n
    · obtain ⟨g, h1⟩ := hg hp
      exact ⟨g, fun _ => h1⟩
    · exact ⟨0, fun h => absurd h hp⟩
  have HG := Lib.hid hgg
  have HB1 := Lib.hid hb1
  have hs := hb1.size
  clear hg hgg hb1 hcl
  go_upto_region 3 with fail
  obtain ⟨c, hc⟩ : ∃ c : RC, c = { rb := w1.heap.size, g := g, A := A', cap := cap', n := n, b := b } := ⟨_, rfl⟩
  have hcr : w1.heap.size = c.rb := by rw [hc]
  have HC := Lib.hid hc
  refine cut_world (fun W => RdAt c { taken := 0, raws := 0, rng := 16777216, val := 0 } W ∧ Below w.heap.size w W) ⟨?_, HB1.out.trans (Below.mono (B := w1.heap.size) (by (repeat' (first | (with_reducible exact Below.refl _ _) | (with_reducible assumption) | (with_reducible refine Below.alloc ?_ ?_ _) | (with_reducible refine below_grew ?_ ?_ _) | (with_reducible refine Below.setCell ?_ ?_ _) | (with_reducible refine Below.drew ?_) | (with_reducible refine below_drewN ?_ _) | omega | (simp; done) | (simp; omega)))) hs)⟩ ?_
  · rw [HC.out]
    refine ⟨alloc_at _ _, fun hp => ?_, fun i hi => ?_⟩
    · obtain ⟨h1, h2, h3, h4⟩ := HG.out hp
      exact ⟨h1, by simp; omega, by simp only; omega⟩
    · obtain ⟨h1, h2, h3, h4⟩ := HG.out (by simp only at hi; omega)
      obtain ⟨h5, h6⟩ := h4 i hi
      refine ⟨?_, h6⟩
      have : ∀ o, (w1.alloc o).cell? ⟨g, i, none⟩ = w1.cell? ⟨g, i, none⟩ := fun o => by unfold World.cell?; rw [alloc_old _ _ _ h3]
      exact (this _).trans h5
  rintro V ⟨hR, hB⟩
  have hcn : c.n = n := by rw [HC.out]
  have hcb : c.b = b := by rw [HC.out]
  have hcg : 0 < n → w.heap.size ≤ c.g := fun hp => by rw [HC.out]; exact (HG.out hp).2.1
  have hcs : w.heap.size ≤ c.rb := by omega
  have HV := Lib.hid hR
  have HBV := Lib.hid hB
  have HFIN := Lib.hid (show c.n = n ∧ c.b = b ∧ w.heap.size ≤ c.rb ∧ (0 < n → w.heap.size ≤ c.g) from ⟨hcn, hcb, hcs, hcg⟩)
  have HBY := Lib.hid (fun i => RC.byte_bd hR i)
  have hn2 : c.n ≤ 1000000 := by omega
  simp only [hcr]
  clear hR hB hc HC HG HB1 hcn hcb hcg hcr hs
  go_loopw [8] (fun cnt wr => ∃ k : Nat, k ≤ 3 ∧ cnt = .int .i64 k ∧ RdAt c { taken := k, raws := 0, rng := 16777216, val := valTo c k } wr ∧ Below w.heap.size w wr) (fun cnt _ => 3 - (intOf cnt).toNat)
  case atStart => exact ⟨0, by omega, rfl, HV.out, HBV.out⟩
  case round =>
    clear HV HBV
    obtain ⟨k, hk, rfl, hR, hB⟩ := hrel
    have hk0 : (0 : Int) ≤ k := by omega
    by_cases hlt : k < 3
    · have hlt' : (k : Int) < 3 := by omega
      have HR4 := Lib.hid hR
      have HC4 := Lib.hid hB
      have hbb := HBY.out k
      obtain ⟨y0, y1, y2⟩ := valTo_bd c HBY.out k (by omega)
      have y3 := y2 (by omega)
      have hl := hR.lt
      clear hR hB y2
      have HNXT := Lib.hid (fun W hp => rdNext c { taken := k, raws := 0, rng := 16777216, val := valTo c k } (by simp only; omega) W hp hn2)
      have HF := Lib.hid (fun (b : Bool) W (hp : RdAt c { taken := if b = true then k + 1 else k, raws := 0, rng := 16777216, val := valTo c k } W) => (show W.cell? ⟨c.rb, 4, none⟩ = some (.int .u32 (valTo c k)) from hp.c4))
      have HPD := Lib.hid (fun (b : Bool) W W' (hb : Below W.heap.size W W') (hp : RdAt c { taken := if b = true then k + 1 else k, raws := 0, rng := 16777216, val := valTo c k } W) => hp.keep0 hb)
      have HNS := Lib.hid (show valTo c (k + 1) = valTo c k * 256 + c.byte k from rfl)
      obtain ⟨z, hz⟩ : ∃ z, c.byte k = z := ⟨_, rfl⟩
      rw [hz] at hbb HNS
      have HZ := Lib.hid hz
      obtain ⟨b0, b1⟩ := hbb
      clear hz
      obtain ⟨y, hy⟩ : ∃ y, valTo c k = y := ⟨_, rfl⟩
      rw [hy] at HR4 HNXT HF HPD HNS y0 y1 y3
      clear hy
      go_upto_region 4 with fail
      refine region_one [c.rb] 7 11 (fun b W => RdAt c { taken := if b = true then k + 1 else k, raws := 0, rng := 16777216, val := y } W) (by kernel_rfl) (by kernel_rfl) HR4.out (fun W h => h.keep0 (Below.refl _ _).drew) HPD.out ?_
      simp only [List.take_succ_cons, List.take_zero, List.drop_succ_cons, List.drop_zero]
      refine RI.wpInv_det (by kernel_rfl) (by kernel_rfl) ?_
      apply Exists.intro
      refine ⟨?_, ?_, ?_⟩
      · rintro D U W hDi ⟨hC, hP⟩ hH
        have hF := HF.out _ W hP
        simp only [HypsU, predsOf, Region.binds, List.filterMap_cons, List.filterMap_nil, if_true, List.nil_append, List.cons_append, List.getD_cons_zero, List.getD_cons_succ] at hH
        simp only [fillPuts, Act.put, List.setIfInBounds_toArray, List.set_cons_zero, List.set_cons_succ, Nat.reduceAdd]
        go_wp2_with fail
        refine ⟨rfl, rfl, (show Below W.heap.size W _ from by (repeat' (first | (with_reducible exact Below.refl _ _) | (with_reducible assumption) | (with_reducible refine Below.alloc ?_ ?_ _) | (with_reducible refine below_grew ?_ ?_ _) | (with_reducible refine Below.setCell ?_ ?_ _) | (with_reducible refine Below.drew ?_) | (with_reducible refine below_drewN ?_ _) | omega | (simp; done) | (simp; omega)))), ?_⟩
        conv => lhs; whnf
        try rfl
      · exact fun _ => rfl
      simp only [List.nil_append, List.cons_append, Nat.reduceAdd]
      refine RI.wpInv_det (by kernel_rfl) (by kernel_rfl) ?_
      apply Exists.intro
      refine ⟨?_, ?_, ?_⟩
      · rintro D U W hDi ⟨hC, hP⟩ hH
        have hF := HF.out _ W hP
        simp only [HypsU, predsOf, Region.binds, List.filterMap_cons, List.filterMap_nil, if_true, List.nil_append, List.cons_append, List.getD_cons_zero, List.getD_cons_succ] at hH
        simp only [fillPuts, Act.put, List.setIfInBounds_toArray, List.set_cons_zero, List.set_cons_succ, Nat.reduceAdd]
        go_wp2_with fail
        refine ⟨rfl, rfl, (show Below W.heap.size W _ from by (repeat' (first | (with_reducible exact Below.refl _ _) | (with_reducible assumption) | (with_reducible refine Below.alloc ?_ ?_ _) | (with_reducible refine below_grew ?_ ?_ _) | (with_reducible refine Below.setCell ?_ ?_ _) | (with_reducible refine Below.drew ?_) | (with_reducible refine below_drewN ?_ _) | omega | (simp; done) | (simp; omega)))), ?_⟩
        conv => lhs; whnf
        try rfl
      · exact fun _ => rfl
      simp only [List.nil_append, List.cons_append, Nat.reduceAdd]
      refine RI.wpInv_det (by kernel_rfl) (by kernel_rfl) ?_
      apply Exists.intro
      refine ⟨?_, ?_, ?_⟩
      · rintro D U W hDi ⟨hC, hP⟩ hH
        have hF := HF.out _ W hP
        simp only [HypsU, predsOf, Region.binds, List.filterMap_cons, List.filterMap_nil, if_true, List.nil_append, List.cons_append, List.getD_cons_zero, List.getD_cons_succ] at hH
        simp only [fillPuts, Act.put, List.setIfInBounds_toArray, List.set_cons_zero, List.set_cons_succ, Nat.reduceAdd]
        go_wp2_with fail
        refine ⟨rfl, rfl, (show Below W.heap.size W _ from by (repeat' (first | (with_reducible exact Below.refl _ _) | (with_reducible assumption) | (with_reducible refine Below.alloc ?_ ?_ _) | (with_reducible refine below_grew ?_ ?_ _) | (with_reducible refine Below.setCell ?_ ?_ _) | (with_reducible refine Below.drew ?_) | (with_reducible refine below_drewN ?_ _) | omega | (simp; done) | (simp; omega)))), ?_⟩
        conv => lhs; whnf
        try rfl
      · exact fun _ => rfl
      simp only [List.nil_append, List.cons_append, Nat.reduceAdd]
      refine RI.wpInv_det (by kernel_rfl) (by kernel_rfl) ?_
      apply Exists.intro
      refine ⟨?_, ?_, ?_⟩
      · rintro D U W hDi ⟨hC, hP⟩ hH
        have hF := HF.out _ W hP
        simp only [HypsU, predsOf, Region.binds, List.filterMap_cons, List.filterMap_nil, if_true, List.nil_append, List.cons_append, List.getD_cons_zero, List.getD_cons_succ] at hH
        simp only [fillPuts, Act.put, List.setIfInBounds_toArray, List.set_cons_zero, List.set_cons_succ, Nat.reduceAdd]
        go_wp2_with fail
        refine ⟨rfl, rfl, (show Below W.heap.size W _ from by (repeat' (first | (with_reducible exact Below.refl _ _) | (with_reducible assumption) | (with_reducible refine Below.alloc ?_ ?_ _) | (with_reducible refine below_grew ?_ ?_ _) | (with_reducible refine Below.setCell ?_ ?_ _) | (with_reducible refine Below.drew ?_) | (with_reducible refine below_drewN ?_ _) | omega | (simp; done) | (simp; omega)))), ?_⟩
        conv => lhs; whnf
        try rfl
      · exact fun _ => rfl
      simp only [List.nil_append, List.cons_append, Nat.reduceAdd]
      refine RI.wpInv_det (by kernel_rfl) (by kernel_rfl) ?_
      apply Exists.intro
      refine ⟨?_, ?_, ?_⟩
      · rintro D U W hDi ⟨hC, hP⟩ hH
        have hF := HF.out _ W hP
        simp only [HypsU, predsOf, Region.binds, List.filterMap_cons, List.filterMap_nil, if_true, List.nil_append, List.cons_append, List.getD_cons_zero, List.getD_cons_succ] at hH
        simp only [fillPuts, Act.put, List.setIfInBounds_toArray, List.set_cons_zero, List.set_cons_succ, Nat.reduceAdd]
        go_wp2_with fail
        refine ⟨rfl, rfl, (show Below W.heap.size W _ from by (repeat' (first | (with_reducible exact Below.refl _ _) | (with_reducible assumption) | (with_reducible refine Below.alloc ?_ ?_ _) | (with_reducible refine below_grew ?_ ?_ _) | (with_reducible refine Below.setCell ?_ ?_ _) | (with_reducible refine Below.drew ?_) | (with_reducible refine below_drewN ?_ _) | omega | (simp; done) | (simp; omega)))), ?_⟩
        conv => lhs; whnf
        try rfl
      · exact fun _ => rfl
      simp only [List.nil_append, List.cons_append, Nat.reduceAdd]
      refine RI.wpInv_det (by kernel_rfl) (by kernel_rfl) ?_
      apply Exists.intro
      refine ⟨?_, ?_, ?_⟩
      · rintro D U W hDi ⟨hC, hP⟩ hH
        have hF := HF.out _ W hP
        simp only [HypsU, predsOf, Region.binds, List.filterMap_cons, List.filterMap_nil, if_true, List.nil_append, List.cons_append, List.getD_cons_zero, List.getD_cons_succ] at hH
        simp only [fillPuts, Act.put, List.setIfInBounds_toArray, List.set_cons_zero, List.set_cons_succ, Nat.reduceAdd]
        (try simp only [hH]); go_wp2_with fail
        refine ⟨rfl, rfl, (show Below W.heap.size W _ from by (repeat' (first | (with_reducible exact Below.refl _ _) | (with_reducible assumption) | (with_reducible refine Below.alloc ?_ ?_ _) | (with_reducible refine below_grew ?_ ?_ _) | (with_reducible refine Below.setCell ?_ ?_ _) | (with_reducible refine Below.drew ?_) | (with_reducible refine below_drewN ?_ _) | omega | (simp; done) | (simp; omega)))), ?_⟩
        conv => lhs; whnf
        try rfl
      · exact fun _ => rfl
      simp only [List.nil_append, List.cons_append, Nat.reduceAdd]
      refine RI.wpInv_det (by kernel_rfl) (by kernel_rfl) ?_
      apply Exists.intro
      refine ⟨?_, ?_, ?_⟩
      · rintro D U W hDi ⟨hC, hP⟩ hH
        have hF := HF.out _ W hP
        simp only [HypsU, predsOf, Region.binds, List.filterMap_cons, List.filterMap_nil, if_true, List.nil_append, List.cons_append, List.getD_cons_zero, List.getD_cons_succ] at hH
        simp only [fillPuts, Act.put, List.setIfInBounds_toArray, List.set_cons_zero, List.set_cons_succ, Nat.reduceAdd]
        go_wp2_with fail
        refine ⟨rfl, rfl, (show Below W.heap.size W _ from by (repeat' (first | (with_reducible exact Below.refl _ _) | (with_reducible assumption) | (with_reducible refine Below.alloc ?_ ?_ _) | (with_reducible refine below_grew ?_ ?_ _) | (with_reducible refine Below.setCell ?_ ?_ _) | (with_reducible refine Below.drew ?_) | (with_reducible refine below_drewN ?_ _) | omega | (simp; done) | (simp; omega)))), ?_⟩
        conv => lhs; whnf
        try rfl
      · exact fun _ => rfl
      simp only [List.nil_append, List.cons_append, Nat.reduceAdd]
      refine RI.wpInv_det (by kernel_rfl) (by kernel_rfl) ?_
      apply Exists.intro
      refine ⟨?_, ?_, ?_⟩
      · rintro D U W hDi ⟨hC, hP⟩ hH
        rw [hDi] at hP
        simp only [HypsU, predsOf, Region.binds, List.filterMap_cons, List.filterMap_nil, if_true, List.nil_append, List.cons_append, List.getD_cons_zero, List.getD_cons_succ] at hH
        simp only [fillPuts, Act.put, List.setIfInBounds_toArray, List.set_cons_zero, List.set_cons_succ, Nat.reduceAdd]
        (try simp only [hH]); go_wp2_with fail; refine (HNXT.out W hP).mono ?_; rintro e2 w' ⟨rfl, hp1, hg1⟩; rw [HZ.out]; go_wp2_with fail
        refine ⟨rfl, rfl, (show Chg _ _ _ ∧ _ from ⟨hg1, hp1⟩), ?_⟩
        conv => lhs; whnf
        try rfl
      · exact fun _ => rfl
      simp only [List.nil_append, List.cons_append, Nat.reduceAdd]
      refine RI.wpInv_det (by kernel_rfl) (by kernel_rfl) ?_
      apply Exists.intro
      refine ⟨?_, ?_, ?_⟩
      · rintro D U W hDi ⟨hC, hP⟩ hH
        have hF := HF.out _ W hP
        simp only [HypsU, predsOf, Region.binds, List.filterMap_cons, List.filterMap_nil, if_true, List.nil_append, List.cons_append, List.getD_cons_zero, List.getD_cons_succ] at hH
        simp only [fillPuts, Act.put, List.setIfInBounds_toArray, List.set_cons_zero, List.set_cons_succ, Nat.reduceAdd]
        (try simp only [hH]); go_wp2_with fail
        refine ⟨rfl, rfl, (show Below W.heap.size W _ from by (repeat' (first | (with_reducible exact Below.refl _ _) | (with_reducible assumption) | (with_reducible refine Below.alloc ?_ ?_ _) | (with_reducible refine below_grew ?_ ?_ _) | (with_reducible refine Below.setCell ?_ ?_ _) | (with_reducible refine Below.drew ?_) | (with_reducible refine below_drewN ?_ _) | omega | (simp; done) | (simp; omega)))), ?_⟩
        conv => lhs; whnf
        try rfl
      · exact fun _ => rfl
      simp only [List.nil_append, List.cons_append, Nat.reduceAdd]
      refine RI.wpInv_det (by kernel_rfl) (by kernel_rfl) ?_
      apply Exists.intro
      refine ⟨?_, ?_, ?_⟩
      · rintro D U W hDi ⟨hC, hP⟩ hH
        have hF := HF.out _ W hP
        simp only [HypsU, predsOf, Region.binds, List.filterMap_cons, List.filterMap_nil, if_true, List.nil_append, List.cons_append, List.getD_cons_zero, List.getD_cons_succ] at hH
        simp only [fillPuts, Act.put, List.setIfInBounds_toArray, List.set_cons_zero, List.set_cons_succ, Nat.reduceAdd]
        go_wp2_with fail
        refine ⟨rfl, rfl, (show Below W.heap.size W _ from by (repeat' (first | (with_reducible exact Below.refl _ _) | (with_reducible assumption) | (with_reducible refine Below.alloc ?_ ?_ _) | (with_reducible refine below_grew ?_ ?_ _) | (with_reducible refine Below.setCell ?_ ?_ _) | (with_reducible refine Below.drew ?_) | (with_reducible refine below_drewN ?_ _) | omega | (simp; done) | (simp; omega)))), ?_⟩
        conv => lhs; whnf
        try rfl
      · exact fun _ => rfl
      simp only [List.nil_append, List.cons_append, Nat.reduceAdd]
      refine RI.wpInv_det (by kernel_rfl) (by kernel_rfl) ?_
      apply Exists.intro
      refine ⟨?_, ?_, ?_⟩
      · rintro D U W hDi ⟨hC, hP⟩ hH
        have hF := HF.out _ W hP
        simp only [HypsU, predsOf, Region.binds, List.filterMap_cons, List.filterMap_nil, if_true, List.nil_append, List.cons_append, List.getD_cons_zero, List.getD_cons_succ] at hH
        simp only [fillPuts, Act.put, List.setIfInBounds_toArray, List.set_cons_zero, List.set_cons_succ, Nat.reduceAdd]
        go_wp2_with fail
        refine ⟨rfl, rfl, (show Below W.heap.size W _ from by (repeat' (first | (with_reducible exact Below.refl _ _) | (with_reducible assumption) | (with_reducible refine Below.alloc ?_ ?_ _) | (with_reducible refine below_grew ?_ ?_ _) | (with_reducible refine Below.setCell ?_ ?_ _) | (with_reducible refine Below.drew ?_) | (with_reducible refine below_drewN ?_ _) | omega | (simp; done) | (simp; omega)))), ?_⟩
        conv => lhs; whnf
        try rfl
      · exact fun _ => rfl
      simp only [List.nil_append, List.cons_append, Nat.reduceAdd]
      simp only [List.nil_append, List.cons_append, Nat.reduceAdd, fillPuts, Act.put, List.setIfInBounds_toArray, List.set_cons_zero, List.set_cons_succ]
      rintro D U W hD ⟨hC, hP⟩ ⟨h0, h1, h2, h3, h4, h5, h6, h7, h8, h9, h10, -⟩ -
      rw [hD 7 (by omega)] at hP
      simp only [h0, h1, h2, h3, h4, h5, h6, h7, h8, h9, h10]
      have hP2 : RdAt c { taken := k + 1, raws := 0, rng := 16777216, val := y } W := hP
      rw [or_byte y z y0 b0 b1 (by omega)]
      have HPW := Lib.hid hP2
      have HCW := Lib.hid (show Below w.heap.size w W from HC4.out.trans (hC.toBelow HC4.out.size (fun k hk => by simp only [List.mem_singleton] at hk; omega)))
      have d4 := hP2.c4
      have g4 := hP2.fz 4
      have dl := hP2.lt
      clear h0 h1 h2 h3 h4 h5 h6 h7 h8 h9 h10 hC hP hP2 HR4 HC4 HNXT HF HPD hl
      go_wp2_with fail
      go_roundw
      case rel => exact ⟨k + 1, by omega, rfl, by rw [HNS.out]; exact HPW.out.set4 (y * 256 + z), HCW.out.setCell hcs _⟩
      case measure => simp [intOf]; omega
    · obtain rfl : k = 3 := by omega
      have HR4 := Lib.hid hR
      have HC4 := Lib.hid hB
      clear hR hB hlt
      go_wp2_with fail
      go_ret
      exact ⟨c, rfl, HFIN.out.1, HFIN.out.2.1, HFIN.out.2.2.1, HFIN.out.2.2.2, HR4.out, HC4.out⟩
end Go.Proofs.YtbcdnbbpkikppaaDoor
end

