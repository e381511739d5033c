/-
  DctAdds: The samples of two spectra, added up, are those of both added up, but for one each.
  (One text out of these parts: DctA, Law, LaidC, DctAddsRow.)
-/
import Derived.Test.YtcibajleknhklaaDoorDada
import Derived.ProofKit
import Derived.LaidMore
import Derived.OpenShut
import Derived.Stop.Joined
import Derived.Lib.LaidTab
import Derived.Test.YtcibajleknhklaaDoorRows
import Derived.Test.YtcibajleknhklaaDoorCards
import Derived.Test.YtcibajleknhklaaDoorTie
import Derived.SevenTiedAt
section
namespace Go.Proofs.YtcibajleknhklaaDoor
open Go.RowKit Go.BigFrame Go.Proofs.YtcibajleknhklaaDoorW.PrintWords Go.Proofs.YtcibajleknhklaaDoorW.PrintLast Go.Proofs.YtcibajleknhklaaDoorW.PrintMore
set_option linter.unusedSimpArgs false
set_option linter.unusedVariables false
abbrev k32 : Nat → IntKind := fun _ => .i32
set_option maxHeartbeats 2000000 in
set_option maxRecDepth 100000 in
theorem awake22 (w : World) (hT : CosW w) :
    Calls Tryd.prog 24 #[] w fun e w' => e = .returned (.bool true) ∧ Below w.heap.size w w' := by
  have hp := fun b c x w hT hb hx hx32 => dctPlain_any 2 (by decide) (by decide) b 0 c x w hT hb hx hx32
  simp only [Nat.reducePow, Nat.reduceAdd, Nat.zero_add] at hp
  have e0 : dctF 2 (fun _ => 0) 3 = 0 := by decide +kernel
  have e1 : dctF 2 (fun i => if i = 0 then 4096 else 0) 0 = 4076 := by decide +kernel
  have HP := Lib.hid hp
  have HC := Lib.hid hT
  have E0 := Lib.hid e0
  have E1 := Lib.hid e1
  clear hp hT e0 e1
  go_enter Tryd.func24, Tryd.ntmps24
  go_wp2_with (at_make; refine make_block _ rfl _ _ _ rfl 21 (.int .i32 0) 1 4 (by kernel_rfl) (by kernel_rfl) 8 rfl rfl (by omega) (by omega) k32 i32_zero ?_)
  refine (HP.out w.heap.size 8 (fun _ => 0) _ (HC.out.below (by (repeat' (first | (with_reducible exact Below.refl _ _) | (with_reducible assumption) | (with_reducible refine Below.alloc ?_ ?_ _) | (with_reducible refine below_grew ?_ ?_ _) | (with_reducible refine Below.setCell ?_ ?_ _) | (with_reducible refine Below.drew ?_) | (with_reducible refine below_drewN ?_ _) | omega | (simp; done) | (simp; omega))))) (by simp) (fun i hi => ag_cell (alloc_at _ _) i hi) (fun _ => by decide)).mono ?_
  rintro e w1 ⟨g, rfl, hg, hbg, hb1⟩
  have hB1 : Below w.heap.size w w1 := Below.trans (by (repeat' (first | (with_reducible exact Below.refl _ _) | (with_reducible assumption) | (with_reducible refine Below.alloc ?_ ?_ _) | (with_reducible refine below_grew ?_ ?_ _) | (with_reducible refine Below.setCell ?_ ?_ _) | (with_reducible refine Below.drew ?_) | (with_reducible refine below_drewN ?_ _) | omega | (simp; done) | (simp; omega)))) (hb1.mono (by simp))
  have HB1 := Lib.hid hB1
  have HG := Lib.hid hbg
  have hs1 := hB1.size
  clear hbg hb1 hB1 hg
  go_wp2_with fail
  refine (HP.out w1.heap.size 8 (fun i => if i = 0 then 4096 else 0) _ (HC.out.below (by have := HB1.out; (repeat' (first | (with_reducible exact Below.refl _ _) | (with_reducible assumption) | (with_reducible refine Below.alloc ?_ ?_ _) | (with_reducible refine below_grew ?_ ?_ _) | (with_reducible refine Below.setCell ?_ ?_ _) | (with_reducible refine Below.drew ?_) | (with_reducible refine below_drewN ?_ _) | omega | (simp; done) | (simp; omega))))) (by simp) ?_ (fun i => by split <;> decide)).mono ?_
  · intro i hi
    have : i = 0 ∨ i = 1 ∨ i = 2 ∨ i = 3 ∨ i = 4 ∨ i = 5 ∨ i = 6 ∨ i = 7 := by omega
    rcases this with rfl | rfl | rfl | rfl | rfl | rfl | rfl | rfl <;> simp [go_sem]
  rintro e w2 ⟨g2, rfl, hg2, hbg2, hb2⟩
  have hB2 : Below w.heap.size w w2 := Below.trans (by have := HB1.out; (repeat' (first | (with_reducible exact Below.refl _ _) | (with_reducible assumption) | (with_reducible refine Below.alloc ?_ ?_ _) | (with_reducible refine below_grew ?_ ?_ _) | (with_reducible refine Below.setCell ?_ ?_ _) | (with_reducible refine Below.drew ?_) | (with_reducible refine below_drewN ?_ _) | omega | (simp; done) | (simp; omega)))) (hb2.mono (by simp; omega))
  have c0 := ag_cell ((HG.out.keep (by (repeat' (first | (with_reducible exact Below.refl _ _) | (with_reducible assumption) | (with_reducible refine Below.alloc ?_ ?_ _) | (with_reducible refine below_grew ?_ ?_ _) | (with_reducible refine Below.setCell ?_ ?_ _) | (with_reducible refine Below.drew ?_) | (with_reducible refine below_drewN ?_ _) | omega | (simp; done) | (simp; omega))))).keep hb2) 3 (by decide)
  have c1 := ag_cell hbg2 0 (by decide)
  rw [E0.out] at c0
  rw [E1.out] at c1
  have l1 := (block_facts ((HG.out.keep (by (repeat' (first | (with_reducible exact Below.refl _ _) | (with_reducible assumption) | (with_reducible refine Below.alloc ?_ ?_ _) | (with_reducible refine below_grew ?_ ?_ _) | (with_reducible refine Below.setCell ?_ ?_ _) | (with_reducible refine Below.drew ?_) | (with_reducible refine below_drewN ?_ _) | omega | (simp; done) | (simp; omega))))).keep hb2)).2.2
  have l2 := (block_facts hbg2).2.2
  have HB2 := Lib.hid hB2
  clear hB2 hb2 hbg2 hg2
  go_wp2_with fail
  go_ret
  exact ⟨rfl, HB2.out⟩
theorem dctY_congr (s : Nat) (x y : Nat → Int) (h : ∀ j, j < 2 ^ (s + 1) → x j = y j) (k : Nat) : dctY s x k = dctY s y k := by
  have hn : 2 ^ (s + 1) = 2 ^ s + 2 ^ s := by rw [Nat.pow_succ]; omega
  have e : dctZ s x = dctZ s y := by
    unfold dctZ
    refine List.map_congr_left fun j hj => ?_
    have hj' : j < 2 ^ s := by simpa using hj
    unfold dctPair
    rw [h (2 * j) (by omega), h (2 ^ (s + 1) - 1 - 2 * j) (by omega)]
  unfold dctY
  rw [e]
theorem dctF_congr (s : Nat) (x y : Nat → Int) (h : ∀ j, j < 2 ^ (s + 1) → x j = y j) (i : Nat) : dctF s x i = dctF s y i := by
  unfold dctF
  rw [dctY_congr s x y h, dctY_congr s x y h]
abbrev T32 := 42
set_option maxHeartbeats 4000000 in
set_option maxRecDepth 100000 in
theorem dctAdds_any (a : Int) (ha : 0 ≤ a ∧ a ≤ 255) (X Y : Nat → Int) (hX : ∀ i, -2147483648 ≤ X i ∧ X i ≤ 2147483647) (hY : ∀ i, -2147483648 ≤ Y i ∧ Y i ≤ 2147483647) (w : World) (hT : CosW w) :
    Calls Tryd.prog 6 #[.int .u8 a, .agg (ag k32 32 X), .agg (ag k32 32 Y)] w fun e w' => e = .returned (.bool true) ∧ Below w.heap.size w w' := by
  have HAW := Lib.hid (fun w h => awake22 w h)
  obtain ⟨t, ht, ht3⟩ : ∃ t : Nat, a % 3 = (t : Int) ∧ t < 3 := ⟨(a % 3).toNat, by omega, by omega⟩
  obtain ⟨s, hs⟩ : ∃ s, s = t + 2 := ⟨_, rfl⟩
  have h1 : 2 ≤ s := by omega
  have h2 : s ≤ 4 := by omega
  have hpl := fun b c x w hT hb hx hx32 => dctPlain_any s h1 h2 b 0 c x w hT hb hx hx32
  have hadd := dct_adds s h1 h2
  obtain ⟨n, hn⟩ : ∃ n : Nat, 2 ^ (s + 1) = n := ⟨_, rfl⟩
  have hn8 : 8 ≤ n ∧ n ≤ 32 := by
    rcases dct_s s h1 h2 with rfl | rfl | rfl <;> (rw [← hn]; decide)
  have hsh : wrap64 (8 * 2 ^ t) = (n : Int) := by
    have : t = 0 ∨ t = 1 ∨ t = 2 := by omega
    rcases this with rfl | rfl | rfl <;> (subst hs; rw [← hn]; decide +kernel)
  rw [hn] at hpl hadd
  simp only [Nat.zero_add] at hpl
  have HPL := Lib.hid hpl
  have HAD := Lib.hid hadd
  have HC := Lib.hid hT
  have HTT := Lib.hid ht
  have HSH := Lib.hid hsh
  have HX := Lib.hid hX
  have HY := Lib.hid hY
  have HNS := Lib.hid hn
  clear hpl hadd hT ht hsh hX hY hn hs
  go_enter Tryd.func6, Tryd.ntmps6
  go_wp2_with fail
  have hb0 : Below w.heap.size w ((w.alloc (.cells (ag k32 32 X) T32)).alloc (.cells (ag k32 32 Y) T32)) := by (repeat' (first | (with_reducible exact Below.refl _ _) | (with_reducible assumption) | (with_reducible refine Below.alloc ?_ ?_ _) | (with_reducible refine below_grew ?_ ?_ _) | (with_reducible refine Below.setCell ?_ ?_ _) | (with_reducible refine Below.drew ?_) | (with_reducible refine below_drewN ?_ _) | omega | (simp; done) | (simp; omega)))
  have hx0 : Bx w.heap.size T32 k32 32 X ((w.alloc (.cells (ag k32 32 X) T32)).alloc (.cells (ag k32 32 Y) T32)) := (alloc_old _ _ _ (by simp)).trans (alloc_at _ _)
  have hy0 : Bx (w.heap.size + 1) T32 k32 32 Y ((w.alloc (.cells (ag k32 32 X) T32)).alloc (.cells (ag k32 32 Y) T32)) := by
    have := alloc_at (w.alloc (.cells (ag k32 32 X) T32)) (.cells (ag k32 32 Y) T32)
    rw [show (w.alloc (.cells (ag k32 32 X) T32)).heap.size = w.heap.size + 1 from by simp] at this
    exact this
  refine (HAW.out _ (HC.out.below hb0)).mono ?_
  rintro e w1 ⟨rfl, hb1⟩
  have HX1 := Lib.hid (hx0.keep hb1)
  have HY1 := Lib.hid (hy0.keep hb1)
  have HB1 := Lib.hid (hb0.trans (hb1.mono hb0.size))
  have hxl : w.heap.size < w1.heap.size := Nat.lt_of_lt_of_le (by simp; omega) hb1.size
  have hyl : w.heap.size + 1 < w1.heap.size := Nat.lt_of_lt_of_le (by simp) hb1.size
  clear hb0 hx0 hy0 hb1
  go_wp2_with fail
  rw [HTT.out, Int.toNat_natCast, HSH.out]
  refine cut_world (fun Z => Below w1.heap.size w1 Z ∧ R32 w1.heap.size 32 32 T32 (fun _ => 0) Z) ⟨by (repeat' (first | (with_reducible exact Below.refl _ _) | (with_reducible assumption) | (with_reducible refine Below.alloc ?_ ?_ _) | (with_reducible refine below_grew ?_ ?_ _) | (with_reducible refine Below.setCell ?_ ?_ _) | (with_reducible refine Below.drew ?_) | (with_reducible refine below_drewN ?_ _) | omega | (simp; done) | (simp; omega))), ⟨_, alloc_at _ _, rfl, fun i hi => ag_get k32 32 (fun _ => 0) i hi⟩⟩ ?_
  rintro Z ⟨hbZ, hzZ⟩
  have HXZ := Lib.hid (HX1.out.keep hbZ)
  have HYZ := Lib.hid (HY1.out.keep hbZ)
  have HZZ := Lib.hid hzZ
  have HBZ := Lib.hid (HB1.out.trans (hbZ.mono HB1.out.size))
  have hxZ : w.heap.size < Z.heap.size := Nat.lt_of_lt_of_le hxl hbZ.size
  have hyZ : w.heap.size + 1 < Z.heap.size := Nat.lt_of_lt_of_le hyl hbZ.size
  obtain ⟨xb, hxb⟩ : ∃ xb, w.heap.size = xb := ⟨_, rfl⟩
  obtain ⟨yb, hyb⟩ : ∃ yb, xb + 1 = yb := ⟨_, rfl⟩
  obtain ⟨zb, hzb⟩ : ∃ zb, w1.heap.size = zb := ⟨_, rfl⟩
  have hxz : xb ≠ zb := by omega
  have hyz : yb ≠ zb := by omega
  have hwz : w.heap.size ≤ zb := by omega
  rw [hxb] at HXZ HYZ hxZ hyZ ⊢
  rw [hyb] at HYZ hyZ ⊢
  rw [hzb] at HZZ ⊢
  have HWX := Lib.hid hxb
  clear hbZ hzZ HX1 HY1 HB1 hxl hyl hzb hyb hxb HAW
  go_loopw [20] (fun cnt wr => ∃ k : Nat, k ≤ 32 ∧ cnt = .int .i64 k ∧ (∀ j, j < k → (-1048576 ≤ X j ∧ X j ≤ 1048576) ∧ (-1048576 ≤ Y j ∧ Y j ≤ 1048576)) ∧ R32 zb 32 32 T32 (fun j => if j < k then X j + Y j else 0) wr ∧ Upd zb Z wr) (fun cnt _ => 32 - (intOf cnt).toNat)
  case atStart => exact ⟨0, by omega, rfl, fun j hj => by omega, HZZ.out.ext (fun i _ => by rw [if_neg (by omega)]), Upd.refl _ _⟩
  case round =>
    obtain ⟨k, hk, rfl, hok, hz, hu⟩ := hrel
    have HOK := Lib.hid hok
    have HZ := Lib.hid hz
    have HU := Lib.hid hu
    have hxr := (hu.block xb hxZ hxz).trans HXZ.out
    have hyr := (hu.block yb hyZ hyz).trans HYZ.out
    have HXR := Lib.hid (show Bx xb T32 k32 32 X wr from hxr)
    have HYR := Lib.hid (show Bx yb T32 k32 32 Y wr from hyr)
    have hxl := (block_facts hxr).2.2
    have hyl := (block_facts hyr).2.2
    have hzl := hz.lt
    clear hok hz hu hxr hyr
    have hBW : Below w.heap.size w wr := HBZ.out.trans ⟨HU.out.os, HU.out.tape, HU.out.output, HU.out.size, fun i hi => HU.out.block i (by have := HBZ.out.size; omega) (by omega)⟩
    by_cases hlt : k < 32
    · have hlt' : (k : Int) < 32 := by omega
      have hk0 : (0 : Int) ≤ k := by omega
      have cx := ag_cell HXR.out k hlt
      have cy := ag_cell HYR.out k hlt
      simp only [k32] at cx cy
      obtain ⟨p, hx⟩ : ∃ p, X k = p := ⟨_, rfl⟩
      obtain ⟨q, hy⟩ : ∃ q, Y k = q := ⟨_, rfl⟩
      rw [hx] at cx
      rw [hy] at cy
      have HXK := Lib.hid hx
      have HYK := Lib.hid hy
      clear hx hy
      by_cases hmx : 1048576 < max p q
      · have hm1 : decide (1048576 < max p q) = true := decide_eq_true hmx
        clear hmx
        go_wp2_with fail
        first | refine wp_region_grew_all2 (by kernel_rfl) (by kernel_rfl) ?_ | refine wp_region_grew_all (by kernel_rfl) (by kernel_rfl) ?_
        repeat (go_big_quiet_step (fail))
        refine wpQuiet_nil ?_
        rintro _ ⟨x, rfl⟩
        go_wp2_with fail
        go_ret
        exact ⟨rfl, below_grew hBW (by have := hBW.size; omega) _⟩
      · have hm1 : decide (1048576 < max p q) = false := decide_eq_false hmx
        by_cases hmn : min p q < -1048576
        · have hm2 : decide (min p q < -1048576) = true := decide_eq_true hmn
          clear hmx hmn
          go_wp2_with fail
          first | refine wp_region_grew_all2 (by kernel_rfl) (by kernel_rfl) ?_ | refine wp_region_grew_all (by kernel_rfl) (by kernel_rfl) ?_
          repeat (go_big_quiet_step (fail))
          refine wpQuiet_nil ?_
          rintro _ ⟨x, rfl⟩
          go_wp2_with fail
          go_ret
          exact ⟨rfl, below_grew hBW (by have := hBW.size; omega) _⟩
        · have hm2 : decide (min p q < -1048576) = false := decide_eq_false hmn
          have hxy : (-1048576 ≤ p ∧ p ≤ 1048576) ∧ (-1048576 ≤ q ∧ q ≤ 1048576) := by omega
          have HXY := Lib.hid hxy
          clear hmx hmn hxy
          go_wp2_with fail
          first | refine wp_region_grew_all2 (by kernel_rfl) (by kernel_rfl) ?_ | refine wp_region_grew_all (by kernel_rfl) (by kernel_rfl) ?_
          repeat (go_big_quiet_step (fail))
          refine wpQuiet_nil ?_
          rintro _ ⟨x, rfl⟩
          go_upto_region 10 with fail
          refine cut_world (fun V => Below wr.heap.size wr V) (by (repeat' (first | (with_reducible exact Below.refl _ _) | (with_reducible assumption) | (with_reducible refine Below.alloc ?_ ?_ _) | (with_reducible refine below_grew ?_ ?_ _) | (with_reducible refine Below.setCell ?_ ?_ _) | (with_reducible refine Below.drew ?_) | (with_reducible refine below_drewN ?_ _) | omega | (simp; done) | (simp; omega)))) ?_
          rintro V hbV
          have HXV := Lib.hid (HXR.out.keep hbV)
          have HYV := Lib.hid (HYR.out.keep hbV)
          have HZV := Lib.hid (HZ.out.keep hbV)
          have HUV := Lib.hid (HU.out.trans (Upd.of_below hbV))
          have hxv : xb < V.heap.size := Nat.lt_of_lt_of_le hxl hbV.size
          have hyv : yb < V.heap.size := Nat.lt_of_lt_of_le hyl hbV.size
          have hzv : zb < V.heap.size := Nat.lt_of_lt_of_le hzl hbV.size
          clear hbV cx cy hxl hyl hzl
          have cx := ag_cell HXV.out k hlt
          have cy := ag_cell HYV.out k hlt
          simp only [k32] at cx cy
          rw [HXK.out] at cx
          rw [HYK.out] at cy
          have hw32 : (p + q + 2147483648) % 4294967296 - 2147483648 = p + q := by have := HXY.out; omega
          refine wp_region_inv [] (fun W => Below V.heap.size V W) (fun W W' => Below W.heap.size W W') 8 (by kernel_rfl) (by kernel_rfl) (by kernel_rfl) ((Below.refl _ _).drew) (fun W W' h h' => h.trans (h'.mono h.size)) (fun _ _ h => h.size) ?_
          simp only [List.take_succ_cons, List.take_zero, List.drop_succ_cons, List.drop_zero]
          refine wpInv_det (by kernel_rfl) (by kernel_rfl) ?_
          apply Exists.intro
          refine ⟨?_, ?_, ?_⟩
          · intro U W hC hH
            have hc1 := (bcell hC).1
            have hf1 := (bcell hC).2
            simp only [HypsU, predsOf, Region.binds, List.filterMap_cons, List.filterMap_nil, if_true, List.nil_append, List.cons_append, List.getD_cons_zero, List.getD_cons_succ] at hH
            simp only [fillPuts, Act.put, List.setIfInBounds_toArray, List.set_cons_zero, List.set_cons_succ, Nat.reduceAdd]
            go_wp2_with fail
            refine ⟨rfl, rfl, by (repeat' (first | (with_reducible exact Below.refl _ _) | (with_reducible assumption) | (with_reducible refine Below.alloc ?_ ?_ _) | (with_reducible refine below_grew ?_ ?_ _) | (with_reducible refine Below.setCell ?_ ?_ _) | (with_reducible refine Below.drew ?_) | (with_reducible refine below_drewN ?_ _) | omega | (simp; done) | (simp; omega))), ?_⟩
            conv => lhs; whnf
            try rfl
          · exact fun _ => rfl
          simp only [List.nil_append, List.cons_append, Nat.reduceAdd]
          refine wpInv_det (by kernel_rfl) (by kernel_rfl) ?_
          apply Exists.intro
          refine ⟨?_, ?_, ?_⟩
          · intro U W hC hH
            have hc1 := (bcell hC).1
            have hf1 := (bcell hC).2
            simp only [HypsU, predsOf, Region.binds, List.filterMap_cons, List.filterMap_nil, if_true, List.nil_append, List.cons_append, List.getD_cons_zero, List.getD_cons_succ] at hH
            simp only [fillPuts, Act.put, List.setIfInBounds_toArray, List.set_cons_zero, List.set_cons_succ, Nat.reduceAdd]
            go_wp2_with fail
            refine ⟨rfl, rfl, by (repeat' (first | (with_reducible exact Below.refl _ _) | (with_reducible assumption) | (with_reducible refine Below.alloc ?_ ?_ _) | (with_reducible refine below_grew ?_ ?_ _) | (with_reducible refine Below.setCell ?_ ?_ _) | (with_reducible refine Below.drew ?_) | (with_reducible refine below_drewN ?_ _) | omega | (simp; done) | (simp; omega))), ?_⟩
            conv => lhs; whnf
            try rfl
          · exact fun _ => rfl
          simp only [List.nil_append, List.cons_append, Nat.reduceAdd]
          refine wpInv_det (by kernel_rfl) (by kernel_rfl) ?_
          apply Exists.intro
          refine ⟨?_, ?_, ?_⟩
          · intro U W hC hH
            have hc1 := (bcell hC).1
            have hf1 := (bcell hC).2
            simp only [HypsU, predsOf, Region.binds, List.filterMap_cons, List.filterMap_nil, if_true, List.nil_append, List.cons_append, List.getD_cons_zero, List.getD_cons_succ] at hH
            simp only [fillPuts, Act.put, List.setIfInBounds_toArray, List.set_cons_zero, List.set_cons_succ, Nat.reduceAdd]
            go_wp2_with fail
            refine ⟨rfl, rfl, by (repeat' (first | (with_reducible exact Below.refl _ _) | (with_reducible assumption) | (with_reducible refine Below.alloc ?_ ?_ _) | (with_reducible refine below_grew ?_ ?_ _) | (with_reducible refine Below.setCell ?_ ?_ _) | (with_reducible refine Below.drew ?_) | (with_reducible refine below_drewN ?_ _) | omega | (simp; done) | (simp; omega))), ?_⟩
            conv => lhs; whnf
            try rfl
          · exact fun _ => rfl
          simp only [List.nil_append, List.cons_append, Nat.reduceAdd]
          refine wpInv_det (by kernel_rfl) (by kernel_rfl) ?_
          apply Exists.intro
          refine ⟨?_, ?_, ?_⟩
          · intro U W hC hH
            have hc1 := (bcell hC).1
            have hf1 := (bcell hC).2
            simp only [HypsU, predsOf, Region.binds, List.filterMap_cons, List.filterMap_nil, if_true, List.nil_append, List.cons_append, List.getD_cons_zero, List.getD_cons_succ] at hH
            simp only [fillPuts, Act.put, List.setIfInBounds_toArray, List.set_cons_zero, List.set_cons_succ, Nat.reduceAdd]
            go_wp2_with fail
            refine ⟨rfl, rfl, by (repeat' (first | (with_reducible exact Below.refl _ _) | (with_reducible assumption) | (with_reducible refine Below.alloc ?_ ?_ _) | (with_reducible refine below_grew ?_ ?_ _) | (with_reducible refine Below.setCell ?_ ?_ _) | (with_reducible refine Below.drew ?_) | (with_reducible refine below_drewN ?_ _) | omega | (simp; done) | (simp; omega))), ?_⟩
            conv => lhs; whnf
            try rfl
          · exact fun _ => rfl
          simp only [List.nil_append, List.cons_append, Nat.reduceAdd]
          refine wpInv_det (by kernel_rfl) (by kernel_rfl) ?_
          apply Exists.intro
          refine ⟨?_, ?_, ?_⟩
          · intro U W hC hH
            have hc1 := (bcell hC).1
            have hf1 := (bcell hC).2
            simp only [HypsU, predsOf, Region.binds, List.filterMap_cons, List.filterMap_nil, if_true, List.nil_append, List.cons_append, List.getD_cons_zero, List.getD_cons_succ] at hH
            simp only [fillPuts, Act.put, List.setIfInBounds_toArray, List.set_cons_zero, List.set_cons_succ, Nat.reduceAdd]
            go_wp2_with fail
            refine ⟨rfl, rfl, by (repeat' (first | (with_reducible exact Below.refl _ _) | (with_reducible assumption) | (with_reducible refine Below.alloc ?_ ?_ _) | (with_reducible refine below_grew ?_ ?_ _) | (with_reducible refine Below.setCell ?_ ?_ _) | (with_reducible refine Below.drew ?_) | (with_reducible refine below_drewN ?_ _) | omega | (simp; done) | (simp; omega))), ?_⟩
            conv => lhs; whnf
            try rfl
          · exact fun _ => rfl
          simp only [List.nil_append, List.cons_append, Nat.reduceAdd]
          refine wpInv_det (by kernel_rfl) (by kernel_rfl) ?_
          apply Exists.intro
          refine ⟨?_, ?_, ?_⟩
          · intro U W hC hH
            have hc1 := (bcell hC).1
            have hf1 := (bcell hC).2
            simp only [HypsU, predsOf, Region.binds, List.filterMap_cons, List.filterMap_nil, if_true, List.nil_append, List.cons_append, List.getD_cons_zero, List.getD_cons_succ] at hH
            simp only [fillPuts, Act.put, List.setIfInBounds_toArray, List.set_cons_zero, List.set_cons_succ, Nat.reduceAdd]
            go_wp2_with fail
            refine ⟨rfl, rfl, by (repeat' (first | (with_reducible exact Below.refl _ _) | (with_reducible assumption) | (with_reducible refine Below.alloc ?_ ?_ _) | (with_reducible refine below_grew ?_ ?_ _) | (with_reducible refine Below.setCell ?_ ?_ _) | (with_reducible refine Below.drew ?_) | (with_reducible refine below_drewN ?_ _) | omega | (simp; done) | (simp; omega))), ?_⟩
            conv => lhs; whnf
            try rfl
          · exact fun _ => rfl
          simp only [List.nil_append, List.cons_append, Nat.reduceAdd]
          refine wpInv_det (by kernel_rfl) (by kernel_rfl) ?_
          apply Exists.intro
          refine ⟨?_, ?_, ?_⟩
          · intro U W hC hH
            have hc1 := (bcell hC).1
            have hf1 := (bcell hC).2
            simp only [HypsU, predsOf, Region.binds, List.filterMap_cons, List.filterMap_nil, if_true, List.nil_append, List.cons_append, List.getD_cons_zero, List.getD_cons_succ] at hH
            simp only [fillPuts, Act.put, List.setIfInBounds_toArray, List.set_cons_zero, List.set_cons_succ, Nat.reduceAdd]
            go_wp2_with fail
            refine ⟨rfl, rfl, by (repeat' (first | (with_reducible exact Below.refl _ _) | (with_reducible assumption) | (with_reducible refine Below.alloc ?_ ?_ _) | (with_reducible refine below_grew ?_ ?_ _) | (with_reducible refine Below.setCell ?_ ?_ _) | (with_reducible refine Below.drew ?_) | (with_reducible refine below_drewN ?_ _) | omega | (simp; done) | (simp; omega))), ?_⟩
            conv => lhs; whnf
            try rfl
          · exact fun _ => rfl
          simp only [List.nil_append, List.cons_append, Nat.reduceAdd]
          refine wpInv_det (by kernel_rfl) (by kernel_rfl) ?_
          apply Exists.intro
          refine ⟨?_, ?_, ?_⟩
          · intro U W hC hH
            have hc1 := (bcell hC).1
            have hf1 := (bcell hC).2
            simp only [HypsU, predsOf, Region.binds, List.filterMap_cons, List.filterMap_nil, if_true, List.nil_append, List.cons_append, List.getD_cons_zero, List.getD_cons_succ] at hH
            simp only [fillPuts, Act.put, List.setIfInBounds_toArray, List.set_cons_zero, List.set_cons_succ, Nat.reduceAdd]
            go_wp2_with fail
            refine ⟨rfl, rfl, by (repeat' (first | (with_reducible exact Below.refl _ _) | (with_reducible assumption) | (with_reducible refine Below.alloc ?_ ?_ _) | (with_reducible refine below_grew ?_ ?_ _) | (with_reducible refine Below.setCell ?_ ?_ _) | (with_reducible refine Below.drew ?_) | (with_reducible refine below_drewN ?_ _) | omega | (simp; done) | (simp; omega))), ?_⟩
            conv => lhs; whnf
            try rfl
          · exact fun _ => rfl
          simp only [List.nil_append, List.cons_append, Nat.reduceAdd]
          simp only [List.nil_append, List.cons_append, Nat.reduceAdd, fillPuts, Act.put, List.setIfInBounds_toArray, List.set_cons_zero, List.set_cons_succ]
          rintro U W hC ⟨h0, h1, h2, h3, h4, h5, h6, h7, -⟩ -
          simp only [h0, h1, h2, h3, h4, h5, h6, h7]
          clear h0 h1 h2 h3 h4 h5 h6 h7
          have hZW := HZV.out.keep hC
          obtain ⟨c0, f0⟩ := hZW.cell k hlt
          have hq := hZW.set k (p + q)
          have HQ := Lib.hid hq
          have hzw := hZW.lt
          have HUW := Lib.hid ((HUV.out.trans (Upd.of_below hC)).trans (Upd.of_only (only_setCell W ⟨zb, k, none⟩ (.int .i32 (p + q)))))
          clear hq hZW hC
          go_wp2_with fail
          refine ⟨⟨k + 1, by omega, by go_num, fun j hj => ?_, HQ.out.ext (fun i hi => ?_), HUW.out⟩, by simp only [intOf]; omega⟩
          · by_cases e : j = k
            · subst e; rw [HXK.out, HYK.out]; exact HXY.out
            · exact HOK.out j (by omega)
          · unfold updI
            by_cases e : i = k
            · subst e; rw [if_pos rfl, if_pos (by omega), HXK.out, HYK.out]
            · rw [if_neg e]
              show (if i < k then X i + Y i else 0) = _
              by_cases e2 : i < k
              · rw [if_pos e2, if_pos (by omega)]
              · rw [if_neg e2, if_neg (by omega)]
    · obtain rfl : k = 32 := by omega
      go_wp2_with fail
      have HCR := Lib.hid (HC.out.below hBW)
      have HBW := Lib.hid hBW
      have hxc : ∀ i, i < 32 → wr.cell? ⟨xb, i, none⟩ = some (.int .i32 (X i)) := fun i hi => ag_cell HXR.out i hi
      have hyc : ∀ i, i < 32 → wr.cell? ⟨yb, i, none⟩ = some (.int .i32 (Y i)) := fun i hi => ag_cell HYR.out i hi
      have hzc : ∀ i, i < 32 → wr.cell? ⟨zb, i, none⟩ = some (.int .i32 ((fun j => if j < 32 then X j + Y j else 0) i)) := fun i hi => (HZ.out.cell i hi).1
      have hz32 : ∀ i, -2147483648 ≤ (fun j => if j < 32 then X j + Y j else 0) i ∧ (fun j => if j < 32 then X j + Y j else 0) i ≤ 2147483647 := fun i => by
        show -2147483648 ≤ (if i < 32 then X i + Y i else 0) ∧ (if i < 32 then X i + Y i else 0) ≤ 2147483647
        by_cases h : i < 32
        · have := HOK.out i h; rw [if_pos h]; omega
        · rw [if_neg h]; decide
      have HXC := Lib.hid hxc
      have HYC := Lib.hid hyc
      have HZC := Lib.hid hzc
      have HZ32 := Lib.hid hz32
      have hn32 : (n : Int) ≤ 32 := by omega
      have hn0 : (0 : Int) ≤ n := by omega
      clear hBW hxc hyc hzc hz32
      refine wp_region_inv [] (fun W => Below wr.heap.size wr W) (fun W W' => Below W.heap.size W W') 11 (by kernel_rfl) (by kernel_rfl) (by kernel_rfl) ((Below.refl _ _).drew) (fun W W' h h' => h.trans (h'.mono h.size)) (fun _ _ h => h.size) ?_
      simp only [List.take_succ_cons, List.take_zero, List.drop_succ_cons, List.drop_zero]
      refine wpInv_det (by kernel_rfl) (by kernel_rfl) ?_
      apply Exists.intro
      refine ⟨?_, ?_, ?_⟩
      · intro U W hC hH
        have hc1 := (bcell hC).1
        have hf1 := (bcell hC).2
        simp only [HypsU, predsOf, Region.binds, List.filterMap_cons, List.filterMap_nil, if_true, List.nil_append, List.cons_append, List.getD_cons_zero, List.getD_cons_succ] at hH
        simp only [fillPuts, Act.put, List.setIfInBounds_toArray, List.set_cons_zero, List.set_cons_succ, Nat.reduceAdd]
        go_wp2_with fail
        refine ⟨rfl, rfl, by (repeat' (first | (with_reducible exact Below.refl _ _) | (with_reducible assumption) | (with_reducible refine Below.alloc ?_ ?_ _) | (with_reducible refine below_grew ?_ ?_ _) | (with_reducible refine Below.setCell ?_ ?_ _) | (with_reducible refine Below.drew ?_) | (with_reducible refine below_drewN ?_ _) | omega | (simp; done) | (simp; omega))), ?_⟩
        conv => lhs; whnf
        try rfl
      · exact fun _ => rfl
      simp only [List.nil_append, List.cons_append, Nat.reduceAdd]
      refine wpInv_det (by kernel_rfl) (by kernel_rfl) ?_
      apply Exists.intro
      refine ⟨?_, ?_, ?_⟩
      · intro U W hC hH
        have hc1 := (bcell hC).1
        have hf1 := (bcell hC).2
        simp only [HypsU, predsOf, Region.binds, List.filterMap_cons, List.filterMap_nil, if_true, List.nil_append, List.cons_append, List.getD_cons_zero, List.getD_cons_succ] at hH
        simp only [fillPuts, Act.put, List.setIfInBounds_toArray, List.set_cons_zero, List.set_cons_succ, Nat.reduceAdd]
        go_wp2_with fail
        refine ⟨rfl, rfl, by (repeat' (first | (with_reducible exact Below.refl _ _) | (with_reducible assumption) | (with_reducible refine Below.alloc ?_ ?_ _) | (with_reducible refine below_grew ?_ ?_ _) | (with_reducible refine Below.setCell ?_ ?_ _) | (with_reducible refine Below.drew ?_) | (with_reducible refine below_drewN ?_ _) | omega | (simp; done) | (simp; omega))), ?_⟩
        conv => lhs; whnf
        try rfl
      · exact fun _ => rfl
      simp only [List.nil_append, List.cons_append, Nat.reduceAdd]
      refine ⟨fun U W => ∃ g, U 2 = .slice (some ⟨g, 0, none⟩) n n ∧ Bx g 21 k32 n (dctF s X) W, fun _ _ => rfl, ?_, ?_, ?_⟩
      · rintro U W W' hC hT ⟨g, h3, hgc⟩
        exact ⟨g, h3, hgc.keep hT⟩
      · intro U W hC hH
        simp only [HypsU, predsOf, Region.binds, List.filterMap_cons, List.filterMap_nil, if_true, List.nil_append, List.cons_append, List.getD_cons_zero, List.getD_cons_succ] at hH
        simp only [fillPuts, Act.put, List.setIfInBounds_toArray, List.set_cons_zero, List.set_cons_succ, Nat.reduceAdd]
        go_wp2_with fail
        refine (HPL.out xb 32 X W (HCR.out.below hC) (Nat.lt_of_lt_of_le hxl hC.size) (fun i hi => (cell_blk (hC.block xb hxl) _).trans (HXC.out i (by omega))) HX.out).mono ?_
        rintro e w9 ⟨g, rfl, hg, hbg, hb9⟩
        go_wp2_with fail
        exact ⟨rfl, rfl, hb9, ⟨g, updU_eq _ _ _, hbg⟩, fun h => by cases h⟩
      simp only [List.nil_append, List.cons_append, Nat.reduceAdd]
      refine wpInv_det (by kernel_rfl) (by kernel_rfl) ?_
      apply Exists.intro
      refine ⟨?_, ?_, ?_⟩
      · intro U W hC hH
        have hc1 := (bcell hC).1
        have hf1 := (bcell hC).2
        simp only [HypsU, predsOf, Region.binds, List.filterMap_cons, List.filterMap_nil, if_true, List.nil_append, List.cons_append, List.getD_cons_zero, List.getD_cons_succ] at hH
        simp only [fillPuts, Act.put, List.setIfInBounds_toArray, List.set_cons_zero, List.set_cons_succ, Nat.reduceAdd]
        go_wp2_with fail
        refine ⟨rfl, rfl, by (repeat' (first | (with_reducible exact Below.refl _ _) | (with_reducible assumption) | (with_reducible refine Below.alloc ?_ ?_ _) | (with_reducible refine below_grew ?_ ?_ _) | (with_reducible refine Below.setCell ?_ ?_ _) | (with_reducible refine Below.drew ?_) | (with_reducible refine below_drewN ?_ _) | omega | (simp; done) | (simp; omega))), ?_⟩
        conv => lhs; whnf
        try rfl
      · exact fun _ => rfl
      simp only [List.nil_append, List.cons_append, Nat.reduceAdd]
      refine wpInv_det (by kernel_rfl) (by kernel_rfl) ?_
      apply Exists.intro
      refine ⟨?_, ?_, ?_⟩
      · intro U W hC hH
        have hc1 := (bcell hC).1
        have hf1 := (bcell hC).2
        simp only [HypsU, predsOf, Region.binds, List.filterMap_cons, List.filterMap_nil, if_true, List.nil_append, List.cons_append, List.getD_cons_zero, List.getD_cons_succ] at hH
        simp only [fillPuts, Act.put, List.setIfInBounds_toArray, List.set_cons_zero, List.set_cons_succ, Nat.reduceAdd]
        go_wp2_with fail
        refine ⟨rfl, rfl, by (repeat' (first | (with_reducible exact Below.refl _ _) | (with_reducible assumption) | (with_reducible refine Below.alloc ?_ ?_ _) | (with_reducible refine below_grew ?_ ?_ _) | (with_reducible refine Below.setCell ?_ ?_ _) | (with_reducible refine Below.drew ?_) | (with_reducible refine below_drewN ?_ _) | omega | (simp; done) | (simp; omega))), ?_⟩
        conv => lhs; whnf
        try rfl
      · exact fun _ => rfl
      simp only [List.nil_append, List.cons_append, Nat.reduceAdd]
      refine ⟨fun U W => ∃ g, U 5 = .slice (some ⟨g, 0, none⟩) n n ∧ Bx g 21 k32 n (dctF s Y) W, fun _ _ => rfl, ?_, ?_, ?_⟩
      · rintro U W W' hC hT ⟨g, h3, hgc⟩
        exact ⟨g, h3, hgc.keep hT⟩
      · intro U W hC hH
        simp only [HypsU, predsOf, Region.binds, List.filterMap_cons, List.filterMap_nil, if_true, List.nil_append, List.cons_append, List.getD_cons_zero, List.getD_cons_succ] at hH
        simp only [fillPuts, Act.put, List.setIfInBounds_toArray, List.set_cons_zero, List.set_cons_succ, Nat.reduceAdd]
        go_wp2_with fail
        refine (HPL.out yb 32 Y W (HCR.out.below hC) (Nat.lt_of_lt_of_le hyl hC.size) (fun i hi => (cell_blk (hC.block yb hyl) _).trans (HYC.out i (by omega))) HY.out).mono ?_
        rintro e w9 ⟨g, rfl, hg, hbg, hb9⟩
        go_wp2_with fail
        exact ⟨rfl, rfl, hb9, ⟨g, updU_eq _ _ _, hbg⟩, fun h => by cases h⟩
      simp only [List.nil_append, List.cons_append, Nat.reduceAdd]
      refine wpInv_det (by kernel_rfl) (by kernel_rfl) ?_
      apply Exists.intro
      refine ⟨?_, ?_, ?_⟩
      · intro U W hC hH
        have hc1 := (bcell hC).1
        have hf1 := (bcell hC).2
        simp only [HypsU, predsOf, Region.binds, List.filterMap_cons, List.filterMap_nil, if_true, List.nil_append, List.cons_append, List.getD_cons_zero, List.getD_cons_succ] at hH
        simp only [fillPuts, Act.put, List.setIfInBounds_toArray, List.set_cons_zero, List.set_cons_succ, Nat.reduceAdd]
        go_wp2_with fail
        refine ⟨rfl, rfl, by (repeat' (first | (with_reducible exact Below.refl _ _) | (with_reducible assumption) | (with_reducible refine Below.alloc ?_ ?_ _) | (with_reducible refine below_grew ?_ ?_ _) | (with_reducible refine Below.setCell ?_ ?_ _) | (with_reducible refine Below.drew ?_) | (with_reducible refine below_drewN ?_ _) | omega | (simp; done) | (simp; omega))), ?_⟩
        conv => lhs; whnf
        try rfl
      · exact fun _ => rfl
      simp only [List.nil_append, List.cons_append, Nat.reduceAdd]
      refine wpInv_det (by kernel_rfl) (by kernel_rfl) ?_
      apply Exists.intro
      refine ⟨?_, ?_, ?_⟩
      · intro U W hC hH
        have hc1 := (bcell hC).1
        have hf1 := (bcell hC).2
        simp only [HypsU, predsOf, Region.binds, List.filterMap_cons, List.filterMap_nil, if_true, List.nil_append, List.cons_append, List.getD_cons_zero, List.getD_cons_succ] at hH
        simp only [fillPuts, Act.put, List.setIfInBounds_toArray, List.set_cons_zero, List.set_cons_succ, Nat.reduceAdd]
        go_wp2_with fail
        refine ⟨rfl, rfl, by (repeat' (first | (with_reducible exact Below.refl _ _) | (with_reducible assumption) | (with_reducible refine Below.alloc ?_ ?_ _) | (with_reducible refine below_grew ?_ ?_ _) | (with_reducible refine Below.setCell ?_ ?_ _) | (with_reducible refine Below.drew ?_) | (with_reducible refine below_drewN ?_ _) | omega | (simp; done) | (simp; omega))), ?_⟩
        conv => lhs; whnf
        try rfl
      · exact fun _ => rfl
      simp only [List.nil_append, List.cons_append, Nat.reduceAdd]
      refine ⟨fun U W => ∃ g, U 8 = .slice (some ⟨g, 0, none⟩) n n ∧ Bx g 21 k32 n (dctF s (fun j => if j < 32 then X j + Y j else 0)) W, fun _ _ => rfl, ?_, ?_, ?_⟩
      · rintro U W W' hC hT ⟨g, h3, hgc⟩
        exact ⟨g, h3, hgc.keep hT⟩
      · intro U W hC hH
        simp only [HypsU, predsOf, Region.binds, List.filterMap_cons, List.filterMap_nil, if_true, List.nil_append, List.cons_append, List.getD_cons_zero, List.getD_cons_succ] at hH
        simp only [fillPuts, Act.put, List.setIfInBounds_toArray, List.set_cons_zero, List.set_cons_succ, Nat.reduceAdd]
        go_wp2_with fail
        refine (HPL.out zb 32 (fun j => if j < 32 then X j + Y j else 0) W (HCR.out.below hC) (Nat.lt_of_lt_of_le hzl hC.size) (fun i hi => (cell_blk (hC.block zb hzl) _).trans (HZC.out i (by omega))) HZ32.out).mono ?_
        rintro e w9 ⟨g, rfl, hg, hbg, hb9⟩
        go_wp2_with fail
        exact ⟨rfl, rfl, hb9, ⟨g, updU_eq _ _ _, hbg⟩, fun h => by cases h⟩
      simp only [List.nil_append, List.cons_append, Nat.reduceAdd]
      refine wpInv_det (by kernel_rfl) (by kernel_rfl) ?_
      apply Exists.intro
      refine ⟨?_, ?_, ?_⟩
      · intro U W hC hH
        have hc1 := (bcell hC).1
        have hf1 := (bcell hC).2
        simp only [HypsU, predsOf, Region.binds, List.filterMap_cons, List.filterMap_nil, if_true, List.nil_append, List.cons_append, List.getD_cons_zero, List.getD_cons_succ] at hH
        simp only [fillPuts, Act.put, List.setIfInBounds_toArray, List.set_cons_zero, List.set_cons_succ, Nat.reduceAdd]
        go_wp2_with fail
        refine ⟨rfl, rfl, by (repeat' (first | (with_reducible exact Below.refl _ _) | (with_reducible assumption) | (with_reducible refine Below.alloc ?_ ?_ _) | (with_reducible refine below_grew ?_ ?_ _) | (with_reducible refine Below.setCell ?_ ?_ _) | (with_reducible refine Below.drew ?_) | (with_reducible refine below_drewN ?_ _) | omega | (simp; done) | (simp; omega))), ?_⟩
        conv => lhs; whnf
        try rfl
      · exact fun _ => rfl
      simp only [List.nil_append, List.cons_append, Nat.reduceAdd]
      refine wpInv_det (by kernel_rfl) (by kernel_rfl) ?_
      apply Exists.intro
      refine ⟨?_, ?_, ?_⟩
      · intro U W hC hH
        have hc1 := (bcell hC).1
        have hf1 := (bcell hC).2
        simp only [HypsU, predsOf, Region.binds, List.filterMap_cons, List.filterMap_nil, if_true, List.nil_append, List.cons_append, List.getD_cons_zero, List.getD_cons_succ] at hH
        simp only [fillPuts, Act.put, List.setIfInBounds_toArray, List.set_cons_zero, List.set_cons_succ, Nat.reduceAdd]
        go_wp2_with fail
        refine ⟨rfl, rfl, by (repeat' (first | (with_reducible exact Below.refl _ _) | (with_reducible assumption) | (with_reducible refine Below.alloc ?_ ?_ _) | (with_reducible refine below_grew ?_ ?_ _) | (with_reducible refine Below.setCell ?_ ?_ _) | (with_reducible refine Below.drew ?_) | (with_reducible refine below_drewN ?_ _) | omega | (simp; done) | (simp; omega))), ?_⟩
        conv => lhs; whnf
        try rfl
      · exact fun _ => rfl
      simp only [List.nil_append, List.cons_append, Nat.reduceAdd]
      simp only [List.nil_append, List.cons_append, Nat.reduceAdd, fillPuts, Act.put, List.setIfInBounds_toArray, List.set_cons_zero, List.set_cons_succ]
      rintro U W hC ⟨h0, h1', ⟨gx, h2', hgx⟩, h3, h4, ⟨gy, h5, hgy⟩, h6, h7, ⟨gz, h8, hgz⟩, h9, h10, -⟩ -
      rw [h2'] at h9
      rw [h5] at h10
      simp only [h0, h1', h2', h3, h4, h5, h6, h7, h8, h9, h10]
      clear h0 h1' h2' h3 h4 h5 h6 h7 h8 h9 h10
      have HBQ := Lib.hid (HBW.out.trans (hC.mono HBW.out.size))
      have HGX := Lib.hid hgx
      have HGY := Lib.hid hgy
      have HGZ := Lib.hid hgz
      clear hC hgx hgy hgz
      have hnn : ((n : Int) != (n : Int)) = false := by simp
      go_wp2_with fail
      go_loopw [78] (fun cnt wq => ∃ i : Nat, i ≤ n ∧ cnt = .int .i64 i ∧ Below W.heap.size W wq) (fun cnt _ => n - (intOf cnt).toNat)
      case atStart => exact ⟨0, by omega, rfl, Below.refl _ _⟩
      case round =>
        obtain ⟨i, hi, rfl, hbq⟩ := hrel
        by_cases hin : i < n
        · have hin' : (i : Int) < n := by omega
          have hi0 : (0 : Int) ≤ i := by omega
          have bx := HGX.out.keep hbq
          have by' := HGY.out.keep hbq
          have bz := HGZ.out.keep hbq
          have cx := ag_cell bx i hin
          have cy := ag_cell by' i hin
          have cz := ag_cell bz i hin
          simp only [k32] at cx cy cz
          have lx := (block_facts bx).2.2
          have ly := (block_facts by').2.2
          have lz := (block_facts bz).2.2
          have hd := HAD.out X Y (fun j hj => (HOK.out j (by omega)).1) (fun j hj => (HOK.out j (by omega)).2) i hin
          rw [← dctF_congr s (fun j => if j < 32 then X j + Y j else 0) (fun j => X j + Y j) (fun j hj => if_pos (by rw [HNS.out] at hj; omega)) i] at hd
          have kx : -2147483648 ≤ dctF s X i ∧ dctF s X i ≤ 2147483647 := by rw [dctF_V]; unfold clamp32; omega
          have ky : -2147483648 ≤ dctF s Y i ∧ dctF s Y i ≤ 2147483647 := by rw [dctF_V]; unfold clamp32; omega
          have kz : -2147483648 ≤ dctF s (fun j => if j < 32 then X j + Y j else 0) i ∧ dctF s (fun j => if j < 32 then X j + Y j else 0) i ≤ 2147483647 := by rw [dctF_V]; unfold clamp32; omega
          generalize dctF s X i = rx at *
          generalize dctF s Y i = ry at *
          generalize dctF s (fun j => if j < 32 then X j + Y j else 0) i = rz at *
          have e1 : wrap64 rz = rz := w64_id (by omega) (by omega)
          have e2 : wrap64 rx = rx := w64_id (by omega) (by omega)
          have e3 : wrap64 ry = ry := w64_id (by omega) (by omega)
          have e4 : wrap64 (rz - rx) = rz - rx := w64_id (by omega) (by omega)
          have e5 : wrap64 (rz - rx - ry) = rz - rx - ry := w64_id (by omega) (by omega)
          have t1 : decide (1 < rz - rx - ry) = false := decide_eq_false (by omega)
          have t2 : decide (rz - rx - ry < -1) = false := decide_eq_false (by omega)
          have HBQ2 := Lib.hid hbq
          clear bx by' bz hbq hd kx ky kz
          go_wp2_with fail
          first | refine wp_region_grew_all2 (by kernel_rfl) (by kernel_rfl) ?_ | refine wp_region_grew_all (by kernel_rfl) (by kernel_rfl) ?_
          repeat (go_big_quiet_step (fail))
          refine wpQuiet_nil ?_
          rintro _ ⟨x, rfl⟩
          go_wp2_with fail
          exact ⟨⟨i + 1, by omega, by go_num, below_grew HBQ2.out HBQ2.out.size _⟩, by simp only [intOf]; omega⟩
        · have hin' : ¬ (i : Int) < n := by omega
          have HBR := Lib.hid (HBQ.out.trans (hbq.mono HBQ.out.size))
          clear hbq
          go_wp2_with fail
          go_ret
          exact ⟨rfl, HBR.out⟩
end Go.Proofs.YtcibajleknhklaaDoor
end

section
namespace Go
open Go.RowKit Go.ChangeShapes Go.WideShapes
/-- All arguments read again. -/
theorem trodAll_below {H : Type} {enc : TypeId × Value → H} {P : Program} (hl : laidOutB P = true) {W W' : World} (hb : Below W.heap.size W W') :
    ∀ (ts : List TypeId) (vs : List Value) (ds : List (DataW H)) (ps : List MemPlace), (ts.all fun t => P.readableRec t && decide (t < P.types.size)) = true →
      DataW.TrodAll enc P W 0 (fun _ => true) true ts vs ds ps → (∀ x ∈ ps, x.block < W.heap.size) → DataW.TrodAll enc P W' 0 (fun b => decide (b < W.heap.size)) true ts vs ds ps
  | [], vs, ds, ps, _, h, _ => by
    obtain ⟨rfl, rfl, rfl⟩ := trodAll_nil h
    exact trodAll_mk0
  | t :: ts, vs, ds, ps, hr, h, hlt => by
    simp only [List.all_cons, Bool.and_eq_true, decide_eq_true_eq] at hr
    obtain ⟨v, vs', d, ds', p, q, rfl, rfl, rfl, h1, h2⟩ := trodAll_cons h
    exact trodAll_cons_mk (Below.trod hl hr.1.1 hr.1.2 h1 hb (fun x hx => hlt x (List.mem_append_left _ hx))) (trodAll_below hl hb ts vs' ds' q hr.2 h2 (fun x hx => hlt x (List.mem_append_right _ hx)))
end Go
end

section
namespace Go.Proofs.YtcibajleknhklaaDoor
open Go.RowKit
theorem cosines_of {W : World} {rest : List (String × DataW Unit)} (h : laidMet Tryd.prog (("spinet/cis.cosines", Rows.laid_spinet_cis_cosines) :: rest) W) : CosW W := by
  have hT := Lib.tabIs_of_head (P := Tryd.prog) (g := 0) (t := 207) (e := 2) (n := 65) (k := .i64) (zs := cosL) (by kernel_rfl) (by kernel_rfl) Tryd.underlying207 Tryd.underlying2 (by kernel_rfl) (by kernel_rfl) h
  have hc := fun i hi => hT.cell (g := 0) (by kernel_rfl) i hi
  exact ⟨World.block_lt_of_cell? W ⟨0, 0, none⟩ (hc 0 (by decide)), hc⟩
end Go.Proofs.YtcibajleknhklaaDoor
end

section
namespace Go.Proofs.YtcibajleknhklaaDoor
open Go.ChangeShapes Go.WideShapes Go.ChangeAt Go.WideMaps Go.WideElems Go.RowKit
set_option maxRecDepth 100000 in
theorem dctAdds_lifted (os : Os) (started : os.Started) (H : Type) (enc : TypeId × Value → H) :
    ReturnsInHanded {} Tryd.checked os 6 .any (fun w args => (Rows.dctAddsSpec.pre enc Tryd.prog Tryd.f6 [] false w args ∧ laidMetH Tryd.prog Rows.dctAddsRow.laid w) ∧ sizedMet enc Tryd.prog Tryd.f6 (OpenSpec.ofChange Rows.dctAddsSpec) false w args)
      (Rows.dctAddsSpec.post enc Tryd.prog Tryd.f6 false true false false) := by
  refine returnsInHanded_of_change_and (C := Tryd.checked) (X := fun w _ => laidMetH Tryd.prog Rows.dctAddsRow.laid w) (fun _ _ _ hh h => h.of_heap hh) (by kernel_rfl) started (by kernel_rfl) Tryd.func6
    (ChangeSpec.witness_shaped (enc := enc) (C := Tryd.checked) (os := os) (X := fun w _ => laidMetH Tryd.prog Rows.dctAddsRow.laid w) false (World.doorLaid Tryd.prog 400 os) #[.int .u8 0, .agg (ag k32 32 fun _ => 0), .agg (ag k32 32 fun _ => 0)] 8 rfl (World.shaped_of_RefB (by kernel_rfl) (by kernel_rfl)) (by kernel_rfl) (by kernel_rfl) (by kernel_rfl)
      (laidMetH_of_parts3 (fuel := 8) (laidMet_of_run' 8 (by kernel_rfl) (by kernel_rfl)) (by kernel_rfl) (by kernel_rfl))) ?_
  intro W base args ds gs before hval0 hW _ _ hL _
  have hval : ∀ (j : Nat) t v, Tryd.f6.params[j]? = some t → args[j]? = some v → Value.okWide Tryd.prog W .any base t v := hval0
  have hW' := hW
  obtain ⟨p, q, hA0, hV, rfl, hfz, hnd⟩ := hW
  have hA : DataW.TrodAll enc Tryd.prog W 0 (fun _ => true) true Tryd.f6.params.toList args.toList ds p := hA0
  have hA2 := hA
  rw [Tryd.params6] at hA hval
  obtain ⟨v0, v1, v2, d0, d1, d2, p0, p1, p2, rfl, rfl, hp, h0, h1, h2⟩ := trodAll_three hA
  obtain ⟨rfl, rfl⟩ := trodVars_none hV
  obtain ⟨a, rfl, rfl, hp0, wa⟩ := open_int Tryd.underlying5 (hval 0 5 v0 rfl rfl) h0
  obtain ⟨cs1, hcv1, hfit1⟩ := open_flat 4 ((List.range 32).map fun i => Leaf.int (k32 i)) (by kernel_rfl) (by kernel_rfl) (hval 1 42 v1 rfl rfl) h1
  obtain ⟨st1, hcs1, hst1⟩ := ag_of_fit k32 32 cs1 hfit1
  rw [hcs1, ag_ext k32 32 st1 (fun i => if i < 32 then st1 i else 0) (fun i hi => (if_pos hi).symm)] at hcv1
  subst hcv1
  have hb1 : ∀ i, -2147483648 ≤ (fun i => if i < 32 then st1 i else 0) i ∧ (fun i => if i < 32 then st1 i else 0) i ≤ 2147483647 := fun i => by
    show -2147483648 ≤ (if i < 32 then st1 i else 0) ∧ (if i < 32 then st1 i else 0) ≤ 2147483647
    by_cases h : i < 32
    · rw [if_pos h]; exact wf_i32 (hst1 i h)
    · rw [if_neg h]; decide
  obtain ⟨cs2, hcv2, hfit2⟩ := open_flat 4 ((List.range 32).map fun i => Leaf.int (k32 i)) (by kernel_rfl) (by kernel_rfl) (hval 2 42 v2 rfl rfl) h2
  obtain ⟨st2, hcs2, hst2⟩ := ag_of_fit k32 32 cs2 hfit2
  rw [hcs2, ag_ext k32 32 st2 (fun i => if i < 32 then st2 i else 0) (fun i hi => (if_pos hi).symm)] at hcv2
  subst hcv2
  have hb2 : ∀ i, -2147483648 ≤ (fun i => if i < 32 then st2 i else 0) i ∧ (fun i => if i < 32 then st2 i else 0) i ≤ 2147483647 := fun i => by
    show -2147483648 ≤ (if i < 32 then st2 i else 0) ∧ (if i < 32 then st2 i else 0) ≤ 2147483647
    by_cases h : i < 32
    · rw [if_pos h]; exact wf_i32 (hst2 i h)
    · rw [if_neg h]; decide
  rw [MakeChecks.laidMetH_plain _ _ _ (by kernel_rfl)] at hL
  have hT : CosW W := cosines_of hL
  simp only [List.append_nil] at hW'
  refine (dctAdds_any a (wf_u8 wa) _ _ hb1 hb2 W hT).mono fun e W' ⟨he, hb⟩ => ?_
  subst he
  have e1 : Rows.dctAddsSpec.fn H ([.lit (.int .u8 a), d1, d2] ++ []) = { results := [.lit (.bool true)], args := [.lit (.int .u8 a), d1, d2] } := by simp [Rows.dctAddsSpec]
  refine ⟨_, rfl, _, _, _, [], p, [], hW', ?_, ?_, ?_, hb.frame _, fun h => by cases h⟩
  · rw [e1]; exact trodAll_mk1 (shut_bool Tryd.underlying4 _)
  · rw [e1]; exact trodAll_below (by kernel_rfl) hb _ _ _ _ (by kernel_rfl) hA2 (fun x hx => by simpa using hW'.lt x (by simpa using hx))
  · rw [e1]; rfl
theorem dctAdds_holds : Rows.DctAddsSaid :=
  OpenClaim.holds_of_wide 6 Tryd.f6 rfl rfl rfl rfl rfl rfl rfl ⟨rfl, rfl, rfl, rfl, rfl⟩ rfl rfl rfl rfl rfl (by kernel_rfl) Tryd.func6 (by kernel_rfl)
    (of_decide_eq_true (by kernel_rfl)) (by unfold Func.isWrapper; rw [if_neg (of_decide_eq_false (by kernel_rfl))]; exact ⟨rfl, rfl⟩)
    (fun os started H enc _ => dctAdds_lifted os started H enc)
theorem dctAdds_card : Rows.DctAddsCardSaid :=
  Claim7.holds_tied_plain_at .later [] [.data] true (true, "ae348317897b4f8711de699b2180ffb779772e4703cfa942f657876935132cc0") false
    dctAdds_holds (fun _ h => by cases h) (by kernel_rfl) (fun _ h => by cases h) dctAdds_row_tie rfl ⟨rfl, rfl⟩ (by kernel_rfl) rfl
    (fun f fn hf hfn => by
      obtain rfl : f = 6 := Option.some.inj ((show Tryd.prog.funcNamed "spinet/spinetlaw22.DctAdds" = some 6 by kernel_rfl).symm.trans hf) |>.symm
      obtain rfl : fn = Tryd.f6 := (Option.some.inj (Tryd.func6.symm.trans hfn)).symm
      exact ⟨by kernel_rfl, fun j t ht => by
        rw [Tryd.params6] at ht
        have hm : t ∈ [5, 42, 42] := by simpa using Array.mem_of_getElem? ht
        have hall : ([5, 42, 42].all fun u => !Tryd.prog.wantsStandIn u) = true := by kernel_rfl
        exact (show Tryd.prog.wantsStandIn t = false by simpa using List.all_eq_true.1 hall t (by simpa using hm))⟩)
    (by kernel_rfl)
end Go.Proofs.YtcibajleknhklaaDoor
end

