/-
  StateApart: what one channel has leads to nothing in another one: its sound, its histories and energies are the same without it, of two channels. For every input. The condition: the tables of fades and of cosines read as the program's text lays them (tied).
  (One text out of these parts: ApaW, Law, LaidF, LaidC, StateApartRow.)
-/
import Derived.Test.YtcibajleknhklaaDoorSpah
import Derived.BigQuiet
import Derived.ProofKit
import Derived.LaidMore
import Derived.OpenShut
import Derived.Stop.Joined
import Derived.Lib.LaidTab
import Derived.Test.YtcibajleknhklaaDoorRows
import Derived.Test.YtcibajleknhklaaDoorCards
import Derived.Test.YtcibajleknhklaaDoorTie
import Derived.SevenTiedAt
import Derived.Stop.LaidErr
section
namespace Go.Proofs.YtcibajleknhklaaDoor
open Go.RowKit Go.BigFrame Go.Proofs.YtcibajleknhklaaDoorW.PrintWords Go.Proofs.YtcibajleknhklaaDoorW.PrintLast Go.Proofs.YtcibajleknhklaaDoorW.PrintMore
open PStateTells RStateTells
set_option linter.unusedSimpArgs false
set_option linter.unusedVariables false
abbrev TX := 99
def kX (j : Nat) : IntKind := if j < 64 then .i32 else if j < 74 then .i64 else .u32
def xF (xs es : Nat → Int) (sd : Int) : Nat → Int := fun j => if j < 64 then xs j else if j < 74 then es (j - 64) else sd
abbrev k64 : Nat → IntKind := fun _ => .i64
/-- A frame of these energies. -/
theorem zf_there (es : Nat → Int) : ∃ zf, Tryd.prog.built 106 [(5, .agg (ag k64 10 es))] = some zf ∧ ∀ j, j < 10 → zf[5 + j]? = some (.int .i64 (es j)) := by
  refine ⟨((Tryd.zeroCells106.toList.take 5) ++ (ag k64 10 es).toList ++ (Tryd.zeroCells106.toList.drop 15)).toArray, by kernel_rfl, ?_⟩
  intro j hj
  have h0 : (Tryd.zeroCells106.toList.take 5).length = 5 := by kernel_rfl
  rw [List.getElem?_toArray, List.append_assoc, List.getElem?_append_right (by omega), h0, show 5 + j - 5 = j from by omega, List.getElem?_append_left (by rw [Array.length_toList, ag_size]; exact hj), Array.getElem?_toList, ag_get _ _ _ _ hj]
theorem eq_arr (f : Nat → Int) (w : World) : (Op.equalIn 10000 42 (.agg (ag k32 32 f)) (.agg (ag k32 32 f))).run Tryd.prog w = .ok true w := eq_same _ 32 k32 (by kernel_rfl) (by kernel_rfl) f w
theorem eq_ens (f : Nat → Int) (w : World) : (Op.equalIn 10000 92 (.agg (ag k64 10 f)) (.agg (ag k64 10 f))).run Tryd.prog w = .ok true w := eq_same _ 10 k64 (by kernel_rfl) (by kernel_rfl) f w
/-- The call's frame: the state, the spectrum. -/
structure LA (w : World) (B : Nat) (st X : Nat → Int) (W : World) : Prop where
  below : Below B w W
  size : B + 1 < W.heap.size
  st : Bx B St kS 142 st W
  sp : Bx (B + 1) TX kX 75 X W
theorem LA.keep {w B st X} {W W' : World} (h : LA w B st X W) (hb : Below W.heap.size W W') : LA w B st X W' := by
  have hs := h.size
  exact ⟨h.below.trans (hb.mono (by omega)), Nat.lt_of_lt_of_le hs hb.size, (hb.block _ (by omega)).trans h.st, (hb.block _ (by omega)).trans h.sp⟩
/-- .. and the mode, the other state, the other spectrum. -/
structure LB (w : World) (B m t y : Nat) (st X T Y : Nat → Int) (s : Int) (W : World) : Prop where
  la : LA w B st X W
  o1 : B + 1 < m
  o2 : m < t
  o3 : t < y
  mo : W.heap[m]? = some (.cells #[.int .i64 s, .int .i64 2] 60 (0, 0))
  tt : Bx t St kS 142 T W
  yy : Bx y TX kX 75 Y W
theorem LB.size {w B m t y st X T Y s} {W : World} (h : LB w B m t y st X T Y s W) : y < W.heap.size := (block_facts h.yy).2.2
theorem LB.keep {w B m t y st X T Y s} {W W' : World} (h : LB w B m t y st X T Y s W) (hb : Below W.heap.size W W') : LB w B m t y st X T Y s W' := by
  have h1 := h.o1
  have h2 := h.o2
  have h3 := h.o3
  have h4 := h.size
  exact ⟨h.la.keep hb, h1, h2, h3, (hb.block _ (by omega)).trans h.mo, (hb.block _ (by omega)).trans h.tt, (hb.block _ h4).trans h.yy⟩
theorem LB.onlyT {w B m t y st X T Y s} {T' : Nat → Int} {W W' : World} (h : LB w B m t y st X T Y s W) (ho : Only t W W') (hf : Bx t St kS 142 T' W') : LB w B m t y st X T' Y s W' := by
  have h1 := h.o1
  have h2 := h.o2
  have h3 := h.o3
  exact ⟨⟨ho.below h.la.below (by omega), by rw [ho.size]; exact h.la.size, (ho.block _ (by omega)).trans h.la.st, (ho.block _ (by omega)).trans h.la.sp⟩, h1, h2, h3, (ho.block _ (by omega)).trans h.mo, hf, (ho.block _ (by omega)).trans h.yy⟩
theorem LB.onlyY {w B m t y st X T Y s} {Y' : Nat → Int} {W W' : World} (h : LB w B m t y st X T Y s W) (ho : Only y W W') (hf : Bx y TX kX 75 Y' W') : LB w B m t y st X T Y' s W' := by
  have h1 := h.o1
  have h2 := h.o2
  have h3 := h.o3
  exact ⟨⟨ho.below h.la.below (by omega), by rw [ho.size]; exact h.la.size, (ho.block _ (by omega)).trans h.la.st, (ho.block _ (by omega)).trans h.la.sp⟩, h1, h2, h3, (ho.block _ (by omega)).trans h.mo, (ho.block _ (by omega)).trans h.tt, hf⟩
theorem LB.extT {w B m t y st X T Y s} {T' : Nat → Int} {W : World} (h : LB w B m t y st X T Y s W) (he : ∀ i, i < 142 → T i = T' i) : LB w B m t y st X T' Y s W :=
  ⟨h.la, h.o1, h.o2, h.o3, h.mo, by have := h.tt; unfold Bx at this ⊢; rwa [ag_ext kS 142 T T' he] at this, h.yy⟩
theorem LB.extY {w B m t y st X T Y s} {Y' : Nat → Int} {W : World} (h : LB w B m t y st X T Y s W) (he : ∀ i, i < 75 → Y i = Y' i) : LB w B m t y st X T Y' s W :=
  ⟨h.la, h.o1, h.o2, h.o3, h.mo, h.tt, by have := h.yy; unfold Bx at this ⊢; rwa [ag_ext kX 75 Y Y' he] at this⟩
theorem LB.m0 {w B m t y st X T Y s} {W : World} (h : LB w B m t y st X T Y s W) : W.cell? ⟨m, 0, none⟩ = some (.int .i64 s) := (block_facts h.mo).1 0
theorem LB.m1 {w B m t y st X T Y s} {W : World} (h : LB w B m t y st X T Y s W) : W.cell? ⟨m, 1, none⟩ = some (.int .i64 2) := (block_facts h.mo).1 1
theorem infoX_ag (f : Nat → Int) : (Tryd.prog.info? TX).map (·.size) = some (ag kX 75 f).size := by rw [ag_size]; kernel_rfl
theorem zeroX_size : Tryd.zeroCells99.size = 75 := by kernel_rfl
/-- So many of the other numbers. -/
def tTo (i : Nat) (st : Nat → Int) : Nat → Int := fun j => if 42 ≤ j ∧ j < 42 + i then 3 else if 106 ≤ j ∧ j < 106 + i then 4 else st j
def yTo (i : Nat) (X : Nat → Int) : Nat → Int := fun j => if 32 ≤ j ∧ j < 32 + i then 5 else X j
/-- A state that came, in a block, and its sound. -/
structure PR (b : Nat) (F : Nat → Int) (A : Option Addr) (L : List Int) (W : World) : Prop where
  bx : Bx b St kS 142 F W
  cc : Kd.C (Kd.int .i16) W A L.length L
theorem PR.keep {b F A L} {W W' : World} (h : PR b F A L W) (hb : Below W.heap.size W W') : PR b F A L W' := ⟨h.bx.keep hb, Kd.C_below h.cc hb⟩
/-- The world behind a new state's store. -/
theorem pr_new (W : World) (F : Nat → Int) : Below W.heap.size W ((W.alloc (.cells Tryd.zeroCells97 St (0, 0))).setCells W.heap.size 0 (ag kS 142 F).toList) ∧ Bx W.heap.size St kS 142 F ((W.alloc (.cells Tryd.zeroCells97 St (0, 0))).setCells W.heap.size 0 (ag kS 142 F).toList) :=
  ⟨(only_setCells _ _ _ _).below (by (repeat' (first | (with_reducible exact Below.refl _ _) | (with_reducible assumption) | (with_reducible refine Below.alloc ?_ ?_ _) | (with_reducible refine below_grew ?_ ?_ _) | (with_reducible refine Below.setCell ?_ ?_ _) | (with_reducible refine Below.drew ?_) | (with_reducible refine below_drewN ?_ _) | omega | (simp; done) | (simp; omega)))) (Nat.le_refl _), cells_all (alloc_at W _) (N := 142) zeroS_size (ag_size _ _ _)⟩
/-- What a spectrum's cells are. -/
theorem x_ens {q : Nat} {xs es : Nat → Int} {sd : Int} {W : World} (h : Bx q TX kX 75 (xF xs es sd) W) : W.rangeAt q 64 (ag k64 10 es).toList := by
  have := bx_rangeK h .i64 64 10 (by omega) (fun j h1 h2 => by unfold kX; rw [if_neg (by omega), if_pos (by omega)])
  rwa [ag_ext (fun _ => .i64) 10 _ es (fun i hi => by unfold xF; rw [if_neg (by omega), if_pos (by omega)]; congr 1; omega)] at this
theorem x_nums {q : Nat} {xs es : Nat → Int} {sd : Int} {W : World} (h : Bx q TX kX 75 (xF xs es sd) W) : W.rangeAt q 0 (ag k32 64 xs).toList := by
  have := bx_rangeK h .i32 0 64 (by omega) (fun j h1 h2 => by unfold kX; rw [if_pos (by omega)])
  rwa [ag_ext (fun _ => .i32) 64 _ xs (fun i hi => by unfold xF; rw [if_pos (by omega)]; congr 1; omega)] at this
theorem x_seed {q : Nat} {xs es : Nat → Int} {sd : Int} {W : World} (h : Bx q TX kX 75 (xF xs es sd) W) : W.cell? ⟨q, 74, none⟩ = some (.int .u32 sd) := ag_cell h 74 (by omega)
section
variable {P : Program} {ops : Array Oper} {rest : List Oper} {o : Oper} {a : Act} {w : World} {Q : Exit → Act → World → Prop}
theorem gate_load (ty : TypeId) (x : Operand) (ho : o.op = .load ty x) (h : wpList P ops Q (o :: rest) a w) : wpList P ops Q (o :: rest) a w := h
/-- A load of whole numbers out of the midst of a block. -/
theorem load_ag (hw : Region.wanted o (yielded ops a.tmps) = true) (ty : TypeId) (x : Operand) (ho : o.op = .load ty x)
    (b f : Nat) (hx : a.eval x = .pointer (some ⟨b, f, none⟩)) (κ : Nat → IntKind) (N : Nat) (g : Nat → Int) (d : TypeDesc) (hc : w.rangeAt b f (ag κ N g).toList)
    (hu : P.underlying ty = some d) (hd : d.isRow = true) (hi : (P.info? ty).map (·.size) = some N)
    (h : wpList P ops Q rest (a.put o.dst (.agg (ag κ N g))) w) : wpList P ops Q (o :: rest) a w :=
  load_mid_g hw ty x ho b f hx _ d hc hu hd (by rw [Array.length_toList, ag_size]; exact hi) (by rw [Array.toArray_toList]; exact h)
end
theorem info10 : (Tryd.prog.info? 92).map (·.size) = some 10 := by kernel_rfl
theorem info64' : (Tryd.prog.info? 93).map (·.size) = some 64 := by kernel_rfl
set_option maxHeartbeats 4000000 in
set_option maxRecDepth 100000 in
theorem apart_any (st xs es : Nat → Int) (sd : Int) (z : Int) (hz : 0 ≤ z ∧ z ≤ 255) (hx : ∀ i, -2147483648 ≤ xs i ∧ xs i ≤ 2147483647) (hE : ∀ j, j < 10 → st j ≤ 9223372036854775807) (w : World) (hT : CosW w) (hF : FadeW w) :
    Calls Tryd.prog 13 #[.agg (ag kS 142 st), .int .u8 z, .agg (ag kX 75 (xF xs es sd))] w fun e w' => e = .returned (.bool true) ∧ Below w.heap.size w w' := by
  have haw := Lib.hid (fun w hT => awake26 w hT)
  have HT := Lib.hid hT
  have HF := Lib.hid hF
  have hsz : z.tmod 3 = z % 3 := Int.tmod_eq_emod_of_nonneg hz.1
  obtain ⟨s, hs⟩ : ∃ s, z % 3 = s := ⟨_, rfl⟩
  have hs2 : 0 ≤ s ∧ s ≤ 2 := by omega
  have HZ := Lib.hid hs
  have hN := Lib.hid (fun w => modeN26 s 2 hs2 (by omega) w)
  have hSm := Lib.hid (fun w => samples26 s 2 hs2 (by omega) w)
  obtain ⟨zf, hzb, hzc⟩ := zf_there es
  have HZB := Lib.hid hzb
  have hxa : ∀ i, -2147483648 ≤ apX (nOf s) xs i ∧ apX (nOf s) xs i ≤ 2147483647 := fun i => by unfold apX; split; (omega); (exact hx i)
  have hEa : ∀ j, j < 10 → apS (nOf s) st j ≤ 9223372036854775807 := fun j hj => by unfold apS; rw [if_neg (by omega), if_neg (by omega), if_neg (by omega)]; exact hE j hj
  have hp1 : ∀ w, CosW w → Calls Tryd.prog 48 #[.agg (ag kS 142 st), .agg #[.int .i64 s, .int .i64 2], .agg zf, .agg (ag k32 64 xs), .int .u32 sd] w fun e w' => ∃ v, e = .returned (.tuple #[.agg (ag kS 142 (playF s 2 xs es sd st)), v]) ∧
      Kd.R (Kd.int .i16) 108 w' w.heap.size (fun _ => True) v (mixF (soundsP s xs st 2) (nOf s)) ∧ Below w.heap.size w w' := fun w hT => play_any st xs es sd zf s 2 hs2 (by omega) hx hzc w hT
  have hp2 : ∀ w, CosW w → Calls Tryd.prog 48 #[.agg (ag kS 142 (apS (nOf s) st)), .agg #[.int .i64 s, .int .i64 2], .agg zf, .agg (ag k32 64 (apX (nOf s) xs)), .int .u32 sd] w fun e w' => ∃ v, e = .returned (.tuple #[.agg (ag kS 142 (playF s 2 (apX (nOf s) xs) es sd (apS (nOf s) st))), v]) ∧
      Kd.R (Kd.int .i16) 108 w' w.heap.size (fun _ => True) v (mixF (soundsP s (apX (nOf s) xs) (apS (nOf s) st) 2) (nOf s)) ∧ Below w.heap.size w w' := fun w hT => play_any (apS (nOf s) st) (apX (nOf s) xs) es sd zf s 2 hs2 (by omega) hxa hzc w hT
  have hq1 : ∀ w, FadeW w → Calls Tryd.prog 49 #[.agg (ag kS 142 st), .agg #[.int .i64 s, .int .i64 2]] w fun e w' => ∃ v, e = .returned (.tuple #[.agg (ag kS 142 (loseF s 2 st)), v]) ∧
      Kd.R (Kd.int .i16) 108 w' w.heap.size (fun _ => True) v (mixF (soundsF s st 2) (nOf s)) ∧ Below w.heap.size w w' := fun w hT => lose_any st s 2 hs2 (by omega) hE w hT
  have hq2 : ∀ w, FadeW w → Calls Tryd.prog 49 #[.agg (ag kS 142 (apS (nOf s) st)), .agg #[.int .i64 s, .int .i64 2]] w fun e w' => ∃ v, e = .returned (.tuple #[.agg (ag kS 142 (loseF s 2 (apS (nOf s) st))), v]) ∧
      Kd.R (Kd.int .i16) 108 w' w.heap.size (fun _ => True) v (mixF (soundsF s (apS (nOf s) st) 2) (nOf s)) ∧ Below w.heap.size w w' := fun w hT => lose_any (apS (nOf s) st) s 2 hs2 (by omega) hEa w hT
  have e1 := play_ap s hs2 xs st es sd
  have e2 := lose_ap s hs2 st
  have e3 := soundP_ap s hs2 xs st
  have e4 := soundF_ap s st
  have k1 := soundP_len2 s xs st
  have k2 := soundP_len2 s (apX (nOf s) xs) (apS (nOf s) st)
  have k3 := soundF_len2 s st
  have k4 := soundF_len2 s (apS (nOf s) st)
  generalize playF s 2 xs es sd st = F1 at hp1 e1
  generalize playF s 2 (apX (nOf s) xs) es sd (apS (nOf s) st) = F2 at hp2 e1
  generalize loseF s 2 st = F3 at hq1 e2
  generalize loseF s 2 (apS (nOf s) st) = F4 at hq2 e2
  generalize mixF (soundsP s xs st 2) (nOf s) = P1 at hp1 e3 k1
  generalize mixF (soundsP s (apX (nOf s) xs) (apS (nOf s) st) 2) (nOf s) = P2 at hp2 e3 k2
  generalize mixF (soundsF s st 2) (nOf s) = P3 at hq1 e4 k3
  generalize mixF (soundsF s (apS (nOf s) st) 2) (nOf s) = P4 at hq2 e4 k4
  clear hT hF hsz hs hxa hEa hzb hzc
  obtain ⟨n, hn⟩ : ∃ n, nOf s = n := ⟨_, rfl⟩
  have hn32 := nOf_in s
  rw [hn] at hN hSm hn32 hp2 hq2 e3 e4 k1 k2 k3 k4
  have E1 := Lib.hid e1
  have E2 := Lib.hid e2
  have E3 := Lib.hid e3
  have E4 := Lib.hid e4
  have K := Lib.hid (And.intro k1 (And.intro k2 (And.intro k3 k4)))
  have HP1 := Lib.hid hp1
  have HP2 := Lib.hid hp2
  have HQ1 := Lib.hid hq1
  have HQ2 := Lib.hid hq2
  clear hn e1 e2 e3 e4 k1 k2 k3 k4 hp1 hp2 hq1 hq2 hx hE
  go_enter Tryd.func13, Tryd.ntmps13
  go_upto_region 3 with (go_at_call 46; refine (haw.out _ (HF.out.below (by (repeat' (first | (with_reducible exact Below.refl _ _) | (with_reducible assumption) | (with_reducible refine Below.alloc ?_ ?_ _) | (with_reducible refine below_grew ?_ ?_ _) | (with_reducible refine Below.setCell ?_ ?_ _) | (with_reducible refine Below.drew ?_) | (with_reducible refine below_drewN ?_ _) | omega | (simp; done) | (simp; omega)))))).mono ?_; rintro e w' ⟨rfl, hb1⟩; obtain ⟨x1, rfl⟩ := below_as_grew hb1; clear hb1)
  refine cut_world (fun V => LA w w.heap.size st (xF xs es sd) V) ⟨by (repeat' (first | (with_reducible exact Below.refl _ _) | (with_reducible assumption) | (with_reducible refine Below.alloc ?_ ?_ _) | (with_reducible refine below_grew ?_ ?_ _) | (with_reducible refine Below.setCell ?_ ?_ _) | (with_reducible refine Below.drew ?_) | (with_reducible refine below_drewN ?_ _) | omega | (simp; done) | (simp; omega))), by simp; omega, (World.grew_block _ _ _ (by simp; omega)).trans (alloc_two _ _ _), (World.grew_block _ _ _ (by simp)).trans (alloc_secondOf _ _ _)⟩ ?_
  intro V hV
  generalize hBd : w.heap.size = B at *
  have HBd := Lib.hid hBd
  have HV := Lib.hid hV
  have hVs := hV.size
  clear hBd hV
  go_upto_region 4 with fail
  simp only [HZ.out]
  refine cut_world (fun W => LA w B st (xF xs es sd) W ∧ W.heap[V.heap.size]? = some (.cells #[.int .i64 s, .int .i64 2] 60 (0, 0))) ⟨HV.out.keep (by (repeat' (first | (with_reducible exact Below.refl _ _) | (with_reducible assumption) | (with_reducible refine Below.alloc ?_ ?_ _) | (with_reducible refine below_grew ?_ ?_ _) | (with_reducible refine Below.setCell ?_ ?_ _) | (with_reducible refine Below.drew ?_) | (with_reducible refine below_drewN ?_ _) | omega | (simp; done) | (simp; omega)))), alloc_at _ _⟩ ?_
  rintro V1 ⟨hV1, hmo⟩
  have hmV : B + 1 < V.heap.size := hVs
  generalize V.heap.size = m at *
  have HV1 := Lib.hid hV1
  have HMO := Lib.hid hmo
  clear hV1 hmo HV
  go_upto_region 5 with (first | (refine load_row_g rfl St _ rfl B rfl _ (ag kS 142 st) (0, 0) _ HV1.out.st Tryd.underlying97 rfl ?hin ?_; (case hin => exact infoS_ag _)) | (refine wpList_store_mid rfl St _ _ rfl V1.heap.size 0 (ag kS 142 st) rfl rfl ?hth ?hin3 ?hon ?_; (case hth => exact there_row (alloc_at _ _) _ (zeroS_le _)); (case hin3 => exact infoS_ag _); (case hon => exact ag_one kS 142 _)))
  have q1 := cells_all (alloc_at V1 (.cells Tryd.zeroCells97 St (0, 0))) (N := 142) zeroS_size (cs := ag kS 142 st) (ag_size _ _ _)
  have ho := only_setCells (V1.alloc (.cells Tryd.zeroCells97 St (0, 0))) V1.heap.size 0 (ag kS 142 st).toList
  have hbb : Below V1.heap.size V1 ((V1.alloc (.cells Tryd.zeroCells97 St (0, 0))).setCells V1.heap.size 0 (ag kS 142 st).toList) := ho.below (by (repeat' (first | (with_reducible exact Below.refl _ _) | (with_reducible assumption) | (with_reducible refine Below.alloc ?_ ?_ _) | (with_reducible refine below_grew ?_ ?_ _) | (with_reducible refine Below.setCell ?_ ?_ _) | (with_reducible refine Below.drew ?_) | (with_reducible refine below_drewN ?_ _) | omega | (simp; done) | (simp; omega)))) (Nat.le_refl _)
  have hm1 := (block_facts HMO.out).2.2
  refine cut_world (fun W => LA w B st (xF xs es sd) W ∧ W.heap[m]? = some (.cells #[.int .i64 s, .int .i64 2] 60 (0, 0)) ∧ Bx V1.heap.size St kS 142 st W) ⟨HV1.out.keep hbb, (hbb.block _ hm1).trans HMO.out, q1⟩ ?_
  clear q1 ho hbb HV1 HMO
  rintro V2 ⟨hV2, hmo2, htt2⟩
  generalize V1.heap.size = t at *
  have HV2 := Lib.hid hV2
  have HMO2 := Lib.hid hmo2
  have HTT2 := Lib.hid htt2
  clear hV2 hmo2 htt2
  go_upto_region 6 with (first | (refine load_row_g rfl TX _ rfl (B + 1) rfl _ (ag kX 75 (xF xs es sd)) (0, 0) _ HV2.out.sp Tryd.underlying99 rfl ?hin ?_; (case hin => exact infoX_ag _)) | (refine wpList_store_mid rfl TX _ _ rfl V2.heap.size 0 (ag kX 75 (xF xs es sd)) rfl rfl ?hth ?hin3 ?hon ?_; (case hth => exact there_row (alloc_at _ _) _ (by rw [ag_size, zeroX_size]; exact Nat.le_refl _)); (case hin3 => exact infoX_ag _); (case hon => exact ag_one kX 75 _)))
  have q1 := cells_all (alloc_at V2 (.cells Tryd.zeroCells99 TX (0, 0))) (N := 75) zeroX_size (cs := ag kX 75 (xF xs es sd)) (ag_size _ _ _)
  have ho := only_setCells (V2.alloc (.cells Tryd.zeroCells99 TX (0, 0))) V2.heap.size 0 (ag kX 75 (xF xs es sd)).toList
  have hbb : Below V2.heap.size V2 ((V2.alloc (.cells Tryd.zeroCells99 TX (0, 0))).setCells V2.heap.size 0 (ag kX 75 (xF xs es sd)).toList) := ho.below (by (repeat' (first | (with_reducible exact Below.refl _ _) | (with_reducible assumption) | (with_reducible refine Below.alloc ?_ ?_ _) | (with_reducible refine below_grew ?_ ?_ _) | (with_reducible refine Below.setCell ?_ ?_ _) | (with_reducible refine Below.drew ?_) | (with_reducible refine below_drewN ?_ _) | omega | (simp; done) | (simp; omega)))) (Nat.le_refl _)
  have ht1 := (block_facts HTT2.out).2.2
  have hm2 := (block_facts HMO2.out).2.2
  refine cut_world (fun W => LB w B m t V2.heap.size st (xF xs es sd) (tTo 0 st) (yTo 0 (xF xs es sd)) s W) ⟨HV2.out.keep hbb, hmV, hm1, ht1, (hbb.block _ hm2).trans HMO2.out, ?_, ?_⟩ ?_
  · have := (hbb.block _ ht1).trans HTT2.out
    rwa [show st = tTo 0 st from by funext j; unfold tTo; rw [if_neg (by omega), if_neg (by omega)]] at this
  · have := q1
    rwa [show xF xs es sd = yTo 0 (xF xs es sd) from by funext j; unfold yTo; rw [if_neg (by omega)]] at this
  clear q1 ho hbb HV2 HMO2 HTT2 ht1 hm2 hm1 hVs hmV
  intro V3 hV3
  generalize V2.heap.size = y at *
  have HV3 := Lib.hid hV3
  clear hV3
  have n0 : (0 : Int) ≤ n := by omega
  have n32 : (n : Int) ≤ 32 := by omega
  have hm0 := HV3.out.m0
  have hm1 := HV3.out.m1
  go_wp2_with fail
  clear hm0 hm1
  go_loopw [10] (fun cnt wr => ∃ i : Nat, i ≤ n ∧ cnt = .int .i64 i ∧ LB w B m t y st (xF xs es sd) (tTo i st) (yTo i (xF xs es sd)) s wr) (fun cnt _ => n - (intOf cnt).toNat)
  case atStart => exact ⟨0, by omega, rfl, HV3.out⟩
  case round =>
    obtain ⟨i, hi, rfl, hL⟩ := hrel
    have HL := Lib.hid hL
    have hm0 := hL.m0
    have hm1 := hL.m1
    clear hL
    have hi0 : (0 : Int) ≤ i := by omega
    by_cases hlt : i < n
    · have hlt' : (i : Int) < n := by omega
      have hi32 : (i : Int) < 32 := by omega
      go_upto_region 9 with (go_at_call 47; refine (hN.out _).mono ?_; rintro e wn ⟨rfl, hbn⟩; have HYN := Lib.hid (HL.out.keep hbn); clear hbn)
      have r0 := ag_cell HYN.out.tt (42 + i) (by omega)
      have f0 := (block_facts HYN.out.tt).2.1 (42 + i)
      have r1 := ag_cell HYN.out.tt (106 + i) (by omega)
      have f1 := (block_facts HYN.out.tt).2.1 (106 + i)
      have r2 := ag_cell HYN.out.yy (32 + i) (by omega)
      have f2 := (block_facts HYN.out.yy).2.1 (32 + i)
      have hty : t ≠ y := by have := HYN.out.o3; omega
      clear hm0 hm1
      go_upto_region 8 with fail
      clear r0 f0 r1 f1 r2 f2
      have hl1 := HYN.out.onlyT (only_setCell wn ⟨t, 42 + i, none⟩ (.int .i32 3)) (by have := ag_store HYN.out.tt (42 + i) (by omega) 3; rwa [kS_I _ (by omega) (by omega)] at this)
      have hl2 := hl1.onlyT (only_setCell _ ⟨t, 106 + i, none⟩ (.int .i32 4)) (by have := ag_store hl1.tt (106 + i) (by omega) 4; rwa [kS_I _ (by omega) (by omega)] at this)
      have hl3 := hl2.onlyY (only_setCell _ ⟨y, 32 + i, none⟩ (.int .i32 5)) (by have := ag_store hl2.yy (32 + i) (by omega) 5; rwa [show kX (32 + i) = .i32 from by unfold kX; rw [if_pos (by omega)]] at this)
      refine cut_world (fun W => LB w B m t y st (xF xs es sd) (tTo (i + 1) st) (yTo (i + 1) (xF xs es sd)) s W) ((hl3.extT fun j hj => ?_).extY fun j hj => ?_) ?_
      · unfold updI tTo
        by_cases e1 : j = 106 + i
        · rw [if_pos e1, if_neg (by omega), if_pos (by omega)]
        · rw [if_neg e1]
          by_cases e2 : j = 42 + i
          · rw [if_pos e2, if_pos (by omega)]
          · rw [if_neg e2]
            by_cases e3 : 42 ≤ j ∧ j < 42 + i
            · rw [if_pos e3, if_pos (by omega)]
            · rw [if_neg e3, if_neg (show ¬ (42 ≤ j ∧ j < 42 + (i + 1)) by omega)]
              by_cases e4 : 106 ≤ j ∧ j < 106 + i
              · rw [if_pos e4, if_pos (by omega)]
              · rw [if_neg e4, if_neg (by omega)]
      · unfold updI yTo
        by_cases e1 : j = 32 + i
        · rw [if_pos e1, if_pos (by omega)]
        · rw [if_neg e1]
          by_cases e3 : 32 ≤ j ∧ j < 32 + i
          · rw [if_pos e3, if_pos (by omega)]
          · rw [if_neg e3, if_neg (by omega)]
      clear hl1 hl2 hl3 HYN HL
      intro W hW
      have HW := Lib.hid hW
      clear hW
      go_wp2_with fail
      go_roundw
      case rel => exact ⟨i + 1, by omega, rfl, HW.out⟩
      case measure => simp [intOf]; omega
    · have hlt' : ¬ (i : Int) < n := by omega
      obtain rfl : i = n := by omega
      clear hlt
      go_upto_region 10 with (go_at_call 47; refine (hN.out _).mono ?_; rintro e wn ⟨rfl, hbn⟩; have HYN := Lib.hid (HL.out.keep hbn); clear hbn)
      clear hlt'
      have r0 := ag_cell HYN.out.tt 139 (by omega)
      have f0 := (block_facts HYN.out.tt).2.1 139
      rw [show kS 139 = .i32 from rfl] at r0
      go_upto_region 11 with fail
      have hl1 := HYN.out.onlyT (only_setCell wn ⟨t, 139, none⟩ (.int .i32 6)) (by have := ag_store HYN.out.tt 139 (by omega) 6; rwa [show kS 139 = .i32 from rfl] at this)
      refine cut_world (fun W => LB w B m t y st (xF xs es sd) (apS i st) (xF (apX i xs) es sd) s W) ((hl1.extT fun j hj => ?_).extY fun j hj => ?_) ?_
      · unfold updI tTo apS
        by_cases e1 : j = 139
        · rw [if_pos e1, if_neg (by omega), if_neg (by omega), if_pos e1]
        · rw [if_neg e1, if_neg e1]
      · unfold yTo xF apX
        by_cases e1 : 32 ≤ j ∧ j < 32 + i
        · rw [if_pos e1, if_pos (by omega), if_pos e1]
        · rw [if_neg e1, if_neg e1]
      clear hl1 r0 f0 HYN HL hm0 hm1 HV3
      intro V4 hV4
      have HV4 := Lib.hid hV4
      have hm0 := hV4.m0
      have hm1 := hV4.m1
      have hsd := x_seed hV4.la.sp
      have hb4 : Below w.heap.size w V4 := by rw [HBd.out]; exact hV4.la.below
      have HB4 := Lib.hid hb4
      clear hV4 hb4 hi hi0 n0 n32
      go_wp2_with (first | (refine load_row_g rfl St _ rfl B rfl _ (ag kS 142 st) (0, 0) _ HV4.out.la.st Tryd.underlying97 rfl ?hin ?_; (case hin => exact infoS_ag _)) | (refine load_ag rfl 92 _ rfl (B + 1) 64 rfl k64 10 es _ (x_ens HV4.out.la.sp) Tryd.underlying92 rfl info10 ?_) | (refine load_ag rfl 93 _ rfl (B + 1) 0 rfl k32 64 xs _ (x_nums HV4.out.la.sp) Tryd.underlying93 rfl info64' ?_) | (refine build_to rfl 106 #[(5, .tmp 52)] rfl zf ?hb ?_; (case hb => simp only [List.map_toArray, List.map_cons, List.map_nil]; exact HZB.out)))
      clear hm0 hm1 hsd
      refine (HP1.out _ (HT.out.below HB4.out)).mono ?_
      rintro e wp ⟨v, rfl, hv, hb⟩
      obtain ⟨A1, c1, rfl, -, hC1⟩ := Kd.R_reads hv
      have hl1 := (HV4.out.keep hb)
      have HC1 := Lib.hid hC1
      have HL1 := Lib.hid hl1
      clear hv hb hC1 hl1 HV4 HB4
      go_upto_region 12 with (refine wpList_store_mid rfl St _ _ rfl wp.heap.size 0 (ag kS 142 F1) rfl rfl ?hth ?hin ?hon ?_; (case hth => exact there_row (alloc_at _ _) _ (zeroS_le _)); (case hin => exact infoS_ag _); (case hon => exact ag_one kS 142 _))
      obtain ⟨q1, q2⟩ := pr_new wp F1
      refine cut_world (fun W => LB w B m t y st (xF xs es sd) (apS i st) (xF (apX i xs) es sd) s W ∧ PR wp.heap.size F1 A1 P1 W) ⟨HL1.out.keep q1, ⟨q2, Kd.C_below HC1.out q1⟩⟩ ?_
      clear q1 q2 HC1 HL1
      generalize wp.heap.size = b1 at *
      rintro V5 ⟨hV, hr1⟩
      have HV5 := Lib.hid hV
      have HR1 := Lib.hid hr1
      have hm0 := hV.m0
      have hm1 := hV.m1
      have hsd := x_seed hV.la.sp
      have hb4 : Below w.heap.size w V5 := by rw [HBd.out]; exact hV.la.below
      have HB5 := Lib.hid hb4
      clear hV hb4 hr1
      go_wp2_with (first | (refine load_row_g rfl St _ rfl t rfl _ (ag kS 142 (apS i st)) (0, 0) _ HV5.out.tt Tryd.underlying97 rfl ?hin ?_; (case hin => exact infoS_ag _)) | (refine load_ag rfl 92 _ rfl (B + 1) 64 rfl k64 10 es _ (x_ens HV5.out.la.sp) Tryd.underlying92 rfl info10 ?_) | (refine load_ag rfl 93 _ rfl y 0 rfl k32 64 (apX i xs) _ (x_nums HV5.out.yy) Tryd.underlying93 rfl info64' ?_) | (refine build_to rfl 106 #[(5, .tmp 65)] rfl zf ?hb ?_; (case hb => simp only [List.map_toArray, List.map_cons, List.map_nil]; exact HZB.out)))
      clear hm0 hm1 hsd
      refine (HP2.out _ (HT.out.below HB5.out)).mono ?_
      rintro e wp ⟨v, rfl, hv, hb⟩
      obtain ⟨A2, c2, rfl, -, hC1⟩ := Kd.R_reads hv
      have hl1 := (HV5.out.keep hb)
      have hr1 := (HR1.out.keep hb)
      have HC1 := Lib.hid hC1
      have HL1 := Lib.hid hl1
      have HRR1 := Lib.hid hr1
      clear hv hb hC1 hl1 HV5 HB5 hr1 HR1
      go_upto_region 13 with (refine wpList_store_mid rfl St _ _ rfl wp.heap.size 0 (ag kS 142 F2) rfl rfl ?hth ?hin ?hon ?_; (case hth => exact there_row (alloc_at _ _) _ (zeroS_le _)); (case hin => exact infoS_ag _); (case hon => exact ag_one kS 142 _))
      obtain ⟨q1, q2⟩ := pr_new wp F2
      refine cut_world (fun W => LB w B m t y st (xF xs es sd) (apS i st) (xF (apX i xs) es sd) s W ∧ PR wp.heap.size F2 A2 P2 W ∧ PR b1 F1 A1 P1 W) ⟨HL1.out.keep q1, ⟨q2, Kd.C_below HC1.out q1⟩, HRR1.out.keep q1⟩ ?_
      clear q1 q2 HC1 HL1 HRR1
      generalize wp.heap.size = b2 at *
      rintro V6 ⟨hV, hr2, hr1⟩
      have HV6 := Lib.hid hV
      have HR1 := Lib.hid hr1
      have HR2 := Lib.hid hr2
      have hm0 := hV.m0
      have hm1 := hV.m1
      have hsd := x_seed hV.la.sp
      have hb4 : Below w.heap.size w V6 := by rw [HBd.out]; exact hV.la.below
      have HB6 := Lib.hid hb4
      clear hV hb4 hr1 hr2
      go_wp2_with ((refine load_row_g rfl St _ rfl B rfl _ (ag kS 142 st) (0, 0) _ HV6.out.la.st Tryd.underlying97 rfl ?hin ?_; (case hin => exact infoS_ag _)))
      clear hm0 hm1 hsd
      refine (HQ1.out _ (HF.out.below HB6.out)).mono ?_
      rintro e wp ⟨v, rfl, hv, hb⟩
      obtain ⟨A3, c3, rfl, -, hC1⟩ := Kd.R_reads hv
      have hl1 := (HV6.out.keep hb)
      have hr1 := (HR1.out.keep hb)
      have hr2 := (HR2.out.keep hb)
      have HC1 := Lib.hid hC1
      have HL1 := Lib.hid hl1
      have HRR1 := Lib.hid hr1
      have HRR2 := Lib.hid hr2
      clear hv hb hC1 hl1 HV6 HB6 hr1 HR1 hr2 HR2
      go_upto_region 14 with (refine wpList_store_mid rfl St _ _ rfl wp.heap.size 0 (ag kS 142 F3) rfl rfl ?hth ?hin ?hon ?_; (case hth => exact there_row (alloc_at _ _) _ (zeroS_le _)); (case hin => exact infoS_ag _); (case hon => exact ag_one kS 142 _))
      obtain ⟨q1, q2⟩ := pr_new wp F3
      refine cut_world (fun W => LB w B m t y st (xF xs es sd) (apS i st) (xF (apX i xs) es sd) s W ∧ PR wp.heap.size F3 A3 P3 W ∧ PR b1 F1 A1 P1 W ∧ PR b2 F2 A2 P2 W) ⟨HL1.out.keep q1, ⟨q2, Kd.C_below HC1.out q1⟩, HRR1.out.keep q1, HRR2.out.keep q1⟩ ?_
      clear q1 q2 HC1 HL1 HRR1 HRR2
      generalize wp.heap.size = b3 at *
      rintro V7 ⟨hV, hr3, hr1, hr2⟩
      have HV7 := Lib.hid hV
      have HR1 := Lib.hid hr1
      have HR2 := Lib.hid hr2
      have HR3 := Lib.hid hr3
      have hm0 := hV.m0
      have hm1 := hV.m1
      have hsd := x_seed hV.la.sp
      have hb4 : Below w.heap.size w V7 := by rw [HBd.out]; exact hV.la.below
      have HB7 := Lib.hid hb4
      clear hV hb4 hr1 hr2 hr3
      go_wp2_with ((refine load_row_g rfl St _ rfl t rfl _ (ag kS 142 (apS i st)) (0, 0) _ HV7.out.tt Tryd.underlying97 rfl ?hin ?_; (case hin => exact infoS_ag _)))
      clear hm0 hm1 hsd
      refine (HQ2.out _ (HF.out.below HB7.out)).mono ?_
      rintro e wp ⟨v, rfl, hv, hb⟩
      obtain ⟨A4, c4, rfl, -, hC1⟩ := Kd.R_reads hv
      have hl1 := (HV7.out.keep hb)
      have hr1 := (HR1.out.keep hb)
      have hr2 := (HR2.out.keep hb)
      have hr3 := (HR3.out.keep hb)
      have HC1 := Lib.hid hC1
      have HL1 := Lib.hid hl1
      have HRR1 := Lib.hid hr1
      have HRR2 := Lib.hid hr2
      have HRR3 := Lib.hid hr3
      clear hv hb hC1 hl1 HV7 HB7 hr1 HR1 hr2 HR2 hr3 HR3
      go_upto_region 15 with (refine wpList_store_mid rfl St _ _ rfl wp.heap.size 0 (ag kS 142 F4) rfl rfl ?hth ?hin ?hon ?_; (case hth => exact there_row (alloc_at _ _) _ (zeroS_le _)); (case hin => exact infoS_ag _); (case hon => exact ag_one kS 142 _))
      obtain ⟨q1, q2⟩ := pr_new wp F4
      refine cut_world (fun W => LB w B m t y st (xF xs es sd) (apS i st) (xF (apX i xs) es sd) s W ∧ PR wp.heap.size F4 A4 P4 W ∧ PR b1 F1 A1 P1 W ∧ PR b2 F2 A2 P2 W ∧ PR b3 F3 A3 P3 W) ⟨HL1.out.keep q1, ⟨q2, Kd.C_below HC1.out q1⟩, HRR1.out.keep q1, HRR2.out.keep q1, HRR3.out.keep q1⟩ ?_
      clear q1 q2 HC1 HL1 HRR1 HRR2 HRR3
      generalize wp.heap.size = b4 at *
      rintro V8 ⟨hV, hr4, hr1, hr2, hr3⟩
      have HV8 := Lib.hid hV
      have HR1 := Lib.hid hr1
      have HR2 := Lib.hid hr2
      have HR3 := Lib.hid hr3
      have HR4 := Lib.hid hr4
      have hm0 := hV.m0
      have hm1 := hV.m1
      have hsd := x_seed hV.la.sp
      have hb4 : Below w.heap.size w V8 := by rw [HBd.out]; exact hV.la.below
      have HB8 := Lib.hid hb4
      clear hV hb4 hr1 hr2 hr3 hr4
      have rT1 := bx_rangeK HR1.out.bx .i32 10 32 (by omega) (fun j h1 h2 => kS_I _ (by omega) (by omega))
      have rH1 := bx_rangeK HR1.out.bx .i32 74 32 (by omega) (fun j h1 h2 => kS_I _ (by omega) (by omega))
      have rT2 := bx_rangeK HR2.out.bx .i32 10 32 (by omega) (fun j h1 h2 => kS_I _ (by omega) (by omega))
      rw [ag_ext k32 32 _ (fun i => F1 (10 + i)) (fun j hj => E1.out (10 + j) (by unfold own0; omega))] at rT2
      have rH2 := bx_rangeK HR2.out.bx .i32 74 32 (by omega) (fun j h1 h2 => kS_I _ (by omega) (by omega))
      rw [ag_ext k32 32 _ (fun i => F1 (74 + i)) (fun j hj => E1.out (74 + j) (by unfold own0; omega))] at rH2
      have rm1 := ag_cell HR1.out.bx 138 (by omega)
      have rm2 := ag_cell HR2.out.bx 138 (by omega)
      rw [E1.out 138 (by unfold own0; omega)] at rm2
      have rG3 := bx_rangeK HR3.out.bx .i32 74 32 (by omega) (fun j h1 h2 => kS_I _ (by omega) (by omega))
      have rG4 := bx_rangeK HR4.out.bx .i32 74 32 (by omega) (fun j h1 h2 => kS_I _ (by omega) (by omega))
      rw [ag_ext k32 32 _ (fun i => F3 (74 + i)) (fun j hj => E2.out (74 + j) (by omega))] at rG4
      have rE3 := bx_rangeK HR3.out.bx .i64 0 10 (by omega) (fun j h1 h2 => by unfold kS; rw [if_pos (by omega)])
      have rE4 := bx_rangeK HR4.out.bx .i64 0 10 (by omega) (fun j h1 h2 => by unfold kS; rw [if_pos (by omega)])
      rw [ag_ext k64 10 _ (fun i => F3 (0 + i)) (fun j hj => E2.out (0 + j) (by omega))] at rE4
      have q1 := fun w => eq_arr (fun i => F1 (10 + i)) w
      have q2 := fun w => eq_arr (fun i => F1 (74 + i)) w
      have q3 := fun w => eq_arr (fun i => F3 (74 + i)) w
      have q4 := fun w => eq_ens (fun i => F3 (0 + i)) w
      generalize (fun i => F1 (10 + i)) = g1 at *
      generalize (fun i => F1 (74 + i)) = g2 at *
      generalize (fun i => F3 (74 + i)) = g3 at *
      generalize (fun i => F3 (0 + i)) = g4 at *
      have RT1 := Lib.hid rT1
      have RT2 := Lib.hid rT2
      have RH1 := Lib.hid rH1
      have RH2 := Lib.hid rH2
      have RG3 := Lib.hid rG3
      have RG4 := Lib.hid rG4
      have RE3 := Lib.hid rE3
      have RE4 := Lib.hid rE4
      have p1 := K.out.1.trans K.out.2.1.symm
      have p2 := K.out.2.2.1.trans K.out.2.2.2.symm
      clear rT1 rT2 rH1 rH2 rG3 rG4 rE3 rE4
      go_upto_region 17 with (first | ((with_reducible refine gate_load 42 _ rfl ?_); (first | (refine load_ag rfl 42 _ rfl b1 10 rfl k32 32 g1 _ RT1.out Tryd.underlying42 rfl info32 ?_) | (refine load_ag rfl 42 _ rfl b2 10 rfl k32 32 g1 _ RT2.out Tryd.underlying42 rfl info32 ?_) | (refine load_ag rfl 42 _ rfl b1 74 rfl k32 32 g2 _ RH1.out Tryd.underlying42 rfl info32 ?_) | (refine load_ag rfl 42 _ rfl b2 74 rfl k32 32 g2 _ RH2.out Tryd.underlying42 rfl info32 ?_) | (refine load_ag rfl 42 _ rfl b3 74 rfl k32 32 g3 _ RG3.out Tryd.underlying42 rfl info32 ?_) | (refine load_ag rfl 42 _ rfl b4 74 rfl k32 32 g3 _ RG4.out Tryd.underlying42 rfl info32 ?_))) | ((with_reducible refine gate_load 92 _ rfl ?_); (first | (refine load_ag rfl 92 _ rfl b3 0 rfl k64 10 g4 _ RE3.out Tryd.underlying92 rfl info10 ?_) | (refine load_ag rfl 92 _ rfl b4 0 rfl k64 10 g4 _ RE4.out Tryd.underlying92 rfl info10 ?_))))
      clear q1 q2 q3 q4 rm1 rm2 RT1 RT2 RH1 RH2 RG3 RG4 RE3 RE4 p1 p2 hm0 hm1 hsd
      have hLB := HV8.out
      have hK := K.out
      have l1 : 0 < P1.length := by omega
      have l2 : 0 < P2.length := by omega
      have l3 : 0 < P3.length := by omega
      have l4 : 0 < P4.length := by omega
      obtain ⟨a1, rfl, -⟩ := Kd.at_int HR1.out.cc 0 (by omega) (by omega)
      obtain ⟨a2, rfl, -⟩ := Kd.at_int HR2.out.cc 0 (by omega) (by omega)
      obtain ⟨a3, rfl, -⟩ := Kd.at_int HR3.out.cc 0 (by omega) (by omega)
      obtain ⟨a4, rfl, -⟩ := Kd.at_int HR4.out.cc 0 (by omega) (by omega)
      rw [hK.2.1, hK.2.2.2]
      have hi2 : (0 : Int) ≤ i := by omega
      clear hLB hK l1 l2 l3 l4
      obtain ⟨N2, hN2⟩ : ∃ N2, 2 * i = N2 := ⟨_, rfl⟩
      have HN2 := Lib.hid hN2
      rw [hN2]
      have hN64 : N2 ≤ 64 := by omega
      clear hN2
      have v8 : V8.heap.size = V8.heap.size := rfl
      go_wp2_with fail
      go_loopw [19] (fun cnt wr => ∃ j : Nat, j ≤ N2 ∧ j % 2 = 0 ∧ cnt = .int .i64 j ∧ Below V8.heap.size V8 wr) (fun cnt _ => N2 - (intOf cnt).toNat)
      case atStart => exact ⟨0, by omega, rfl, rfl, by (repeat' (first | (with_reducible exact Below.refl _ _) | (with_reducible assumption) | (with_reducible refine Below.alloc ?_ ?_ _) | (with_reducible refine below_grew ?_ ?_ _) | (with_reducible refine Below.setCell ?_ ?_ _) | (with_reducible refine Below.drew ?_) | (with_reducible refine below_drewN ?_ _) | omega | (simp; done) | (simp; omega)))⟩
      case round =>
        obtain ⟨j, hj, hje, rfl, hbw⟩ := hrel
        have hj0 : (0 : Int) ≤ j := by omega
        have HBW := Lib.hid hbw
        clear hbw v8
        by_cases hlt : j < N2
        · have hlt' : (j : Int) < N2 := by omega
          have hd : decide ((j : Int) < (N2 : Int)) = true := decide_eq_true hlt'
          have hkn : P1.length = N2 ∧ P2.length = N2 ∧ P3.length = N2 ∧ P4.length = N2 := by have := HN2.out; have := K.out; omega
          obtain ⟨ad, he, z1⟩ := Kd.at_int (Kd.C_below HR1.out.cc HBW.out) j hj0 (by omega)
          obtain rfl := Option.some.inj he
          obtain ⟨ad, he, z2⟩ := Kd.at_int (Kd.C_below HR2.out.cc HBW.out) j hj0 (by omega)
          obtain rfl := Option.some.inj he
          obtain ⟨ad, he, z3⟩ := Kd.at_int (Kd.C_below HR3.out.cc HBW.out) j hj0 (by omega)
          obtain rfl := Option.some.inj he
          obtain ⟨ad, he, z4⟩ := Kd.at_int (Kd.C_below HR4.out.cc HBW.out) j hj0 (by omega)
          obtain rfl := Option.some.inj he
          have y1 := E3.out j (by have := HN2.out; omega) hje
          have y2 := E4.out j (by have := HN2.out; omega) hje
          rw [y1] at z2
          rw [y2] at z4
          generalize rd P1 (j : Int) = r1 at *
          generalize rd P3 (j : Int) = r3 at *
          rw [Int.toNat_natCast] at z1 z2 z3 z4
          clear he y1 y2 hkn hlt
          have t1 := World.block_lt_of_cell? wr _ z1
          have t2 := World.block_lt_of_cell? wr _ z2
          have t3 := World.block_lt_of_cell? wr _ z3
          have t4 := World.block_lt_of_cell? wr _ z4
          go_upto_region 20 with fail
          clear t1 t2 t3 t4 hd he
          go_quiet (fail)
          clear z1 z2 z3 z4
          have hw2 : wrap64 ((j : Int) + 2) = ((j + 2 : Nat) : Int) := wn_add (b := 2) (by omega) (by decide)
          go_wp2_with fail
          go_roundw
          case rel =>
            have := HN2.out
            refine ⟨j + 2, by omega, by omega, rfl, ?_⟩
            exact below_drewN HBW.out _
          case measure => simp [intOf]; omega
        · have hlt' : ¬ (j : Int) < N2 := by omega
          have hd : decide ((j : Int) < (N2 : Int)) = false := decide_eq_false hlt'
          have hlb := HV8.out.keep HBW.out
          have hm0 := hlb.m0
          have hm1 := hlb.m1
          have hbw := hlb.la.below
          have HBW2 := Lib.hid hbw
          have hsm2 := hSm.out
          rw [Nat.mul_comm, HN2.out] at hsm2
          have HSM := Lib.hid hsm2
          have hmb := (block_facts hlb.mo).2.2
          have hB1 := hlb.la.size
          clear hlb hbw hsm2 hlt
          go_upto_region 22 with fail
          clear hlt'
          go_wp2_with ((go_at_call 50; refine (HSM.out _).mono ?_; rintro e w' ⟨rfl, hb1⟩; obtain ⟨x1, rfl⟩ := below_as_grew hb1; clear hb1))
          go_ret
          exact ⟨rfl, by rw [HBd.out]; exact Below.trans HBW2.out (Below.mono (B := wr.heap.size) (by (repeat' (first | (with_reducible exact Below.refl _ _) | (with_reducible assumption) | (with_reducible refine Below.alloc ?_ ?_ _) | (with_reducible refine below_grew ?_ ?_ _) | (with_reducible refine Below.setCell ?_ ?_ _) | (with_reducible refine Below.drew ?_) | (with_reducible refine below_drewN ?_ _) | omega | (simp; done) | (simp; omega)))) (by omega))⟩
end Go.Proofs.YtcibajleknhklaaDoor
end

section
namespace Go
open Go.RowKit Go.ChangeShapes Go.WideShapes
/-- All arguments read again. -/
theorem trodAll_below {H : Type} {enc : TypeId × Value → H} {P : Program} (hl : laidOutB P = true) {W W' : World} (hb : Below W.heap.size W W') :
    ∀ (ts : List TypeId) (vs : List Value) (ds : List (DataW H)) (ps : List MemPlace), (ts.all fun t => P.readableRec t && decide (t < P.types.size)) = true →
      DataW.TrodAll enc P W 0 (fun _ => true) true ts vs ds ps → (∀ x ∈ ps, x.block < W.heap.size) → DataW.TrodAll enc P W' 0 (fun b => decide (b < W.heap.size)) true ts vs ds ps
  | [], vs, ds, ps, _, h, _ => by
    obtain ⟨rfl, rfl, rfl⟩ := trodAll_nil h
    exact trodAll_mk0
  | t :: ts, vs, ds, ps, hr, h, hlt => by
    simp only [List.all_cons, Bool.and_eq_true, decide_eq_true_eq] at hr
    obtain ⟨v, vs', d, ds', p, q, rfl, rfl, rfl, h1, h2⟩ := trodAll_cons h
    exact trodAll_cons_mk (Below.trod hl hr.1.1 hr.1.2 h1 hb (fun x hx => hlt x (List.mem_append_left _ hx))) (trodAll_below hl hb ts vs' ds' q hr.2 h2 (fun x hx => hlt x (List.mem_append_right _ hx)))
end Go
end

section
namespace Go.Proofs.YtcibajleknhklaaDoor
open Go.RowKit
theorem fades_of {W : World} {rest : List (String × DataW Unit)} (h : laidMet Tryd.prog (("spinet/conceal.fades", Rows.laid_spinet_conceal_fades) :: rest) W) : FadeW W := by
  have hT := Lib.tabIs_of_head (P := Tryd.prog) (g := 2) (t := 214) (e := 21) (n := 5) (k := .i32) (zs := fadL) (by kernel_rfl) (by kernel_rfl) Tryd.underlying214 Tryd.underlying21 (by kernel_rfl) (by kernel_rfl) h
  have hc := fun i hi => hT.cell (g := 2) (by kernel_rfl) i hi
  exact ⟨World.block_lt_of_cell? W ⟨2, 0, none⟩ (hc 0 (by decide)), hc⟩
end Go.Proofs.YtcibajleknhklaaDoor
end

section
namespace Go.Proofs.YtcibajleknhklaaDoor
open Go.RowKit
theorem cosines_of {W : World} {rest : List (String × DataW Unit)} (h : laidMet Tryd.prog (("spinet/cis.cosines", Rows.laid_spinet_cis_cosines) :: rest) W) : CosW W := by
  have hT := Lib.tabIs_of_head (P := Tryd.prog) (g := 0) (t := 207) (e := 2) (n := 65) (k := .i64) (zs := cosL) (by kernel_rfl) (by kernel_rfl) Tryd.underlying207 Tryd.underlying2 (by kernel_rfl) (by kernel_rfl) h
  have hc := fun i hi => hT.cell (g := 0) (by kernel_rfl) i hi
  exact ⟨World.block_lt_of_cell? W ⟨0, 0, none⟩ (hc 0 (by decide)), hc⟩
end Go.Proofs.YtcibajleknhklaaDoor
end

section
namespace Go.Proofs.YtcibajleknhklaaDoor
open Go.ChangeShapes Go.WideShapes Go.ChangeAt Go.WideMaps Go.WideElems Go.RowKit
set_option maxRecDepth 100000 in
theorem stateApart_lifted (os : Os) (started : os.Started) (H : Type) (enc : TypeId × Value → H) :
    ReturnsInHanded {} Tryd.checked os 13 .any (fun w args => (Rows.stateApartSpec.pre enc Tryd.prog Tryd.f13 [] false w args ∧ laidMetH Tryd.prog Rows.stateApartRow.laid w) ∧ sizedMet enc Tryd.prog Tryd.f13 (OpenSpec.ofChange Rows.stateApartSpec) false w args)
      (Rows.stateApartSpec.post enc Tryd.prog Tryd.f13 false true false false) := by
  refine returnsInHanded_of_change_and (C := Tryd.checked) (X := fun w _ => laidMetH Tryd.prog Rows.stateApartRow.laid w) (fun _ _ _ hh h => h.of_heap hh) (by kernel_rfl) started (by kernel_rfl) Tryd.func13
    (ChangeSpec.witness_shaped (enc := enc) (C := Tryd.checked) (os := os) (X := fun w _ => laidMetH Tryd.prog Rows.stateApartRow.laid w) false (World.doorLaid Tryd.prog 400 os) #[.agg (ag kS 142 (fun _ => 0)), .int .u8 0, .agg (ag kX 75 (fun _ => 0))] 8 rfl (World.shaped_of_RefB (by kernel_rfl) (by kernel_rfl)) (by kernel_rfl) (by kernel_rfl) (by kernel_rfl)
      (laidMetH_of_parts3 (fuel := 8) (laidMet_of_run' 8 (by kernel_rfl) (by kernel_rfl)) (by kernel_rfl) (by kernel_rfl))) ?_
  intro W base args ds gs before hval0 hW _ _ hL _
  have hval : ∀ (j : Nat) t v, Tryd.f13.params[j]? = some t → args[j]? = some v → Value.okWide Tryd.prog W .any base t v := hval0
  have hW' := hW
  obtain ⟨p, q, hA0, hV, rfl, hfz, hnd⟩ := hW
  have hA : DataW.TrodAll enc Tryd.prog W 0 (fun _ => true) true Tryd.f13.params.toList args.toList ds p := hA0
  have hA2 := hA
  rw [Tryd.params13] at hA hval
  obtain ⟨v0, v1, v2, d0, d1, d2, p0, p1, p2, rfl, rfl, hp, h0, h1, h2⟩ := trodAll_three hA
  obtain ⟨rfl, rfl⟩ := trodVars_none hV
  obtain ⟨cs, hcv, hfit⟩ := open_flat 4 ((List.range 142).map fun i => Leaf.int (kS i)) (by kernel_rfl) (by kernel_rfl) (hval 0 97 v0 rfl rfl) h0
  obtain ⟨st, hcs, hst⟩ := ag_of_fit kS 142 cs hfit
  rw [hcs] at hcv
  subst hcv
  obtain ⟨z, rfl, rfl, hp1, wz⟩ := open_int Tryd.underlying5 (hval 1 5 v1 rfl rfl) h1
  obtain ⟨cx, hcx, hfitx⟩ := open_flat 4 ((List.range 75).map fun i => Leaf.int (kX i)) (by kernel_rfl) (by kernel_rfl) (hval 2 99 v2 rfl rfl) h2
  obtain ⟨X, hX, hwX⟩ := ag_of_fit kX 75 cx hfitx
  rw [hX] at hcx
  subst hcx
  have eX : ag kX 75 X = ag kX 75 (xF (fun i => if i < 64 then X i else 0) (fun i => X (64 + i)) (X 74)) := ag_ext kX 75 _ _ fun i hi => by
    unfold xF
    dsimp only
    by_cases e1 : i < 64
    · rw [if_pos e1, if_pos e1]
    · rw [if_neg e1]
      by_cases e2 : i < 74
      · rw [if_pos e2]; congr 1; omega
      · rw [if_neg e2]; congr 1; omega
  rw [MakeChecks.laidMetH_plain _ _ _ (by kernel_rfl)] at hL
  have hF : FadeW W := fades_of hL
  have hT : CosW W := cosines_of (laidMet.tail (x := ("spinet/conceal.fades", Rows.laid_spinet_conceal_fades)) (r := [("spinet/cis.cosines", Rows.laid_spinet_cis_cosines)]) hL)
  simp only [List.append_nil] at hW'
  rw [eX]
  refine (apart_any st (fun i => if i < 64 then X i else 0) (fun i => X (64 + i)) (X 74) z (wf_u8 wz) (fun i => ?_) (fun j hj => ?_) W hT hF).mono fun e W' ⟨he, hb⟩ => ?_
  · split
    · have := hwX i (by omega)
      rw [show kX i = .i32 from by unfold kX; rw [if_pos (by omega)]] at this
      exact wf_i32 this
    · omega
  · have := hst j (by omega)
    rw [show kS j = .i64 from by unfold kS; rw [if_pos hj]] at this
    exact (wf_i64 this).2
  subst he
  have e1 : Rows.stateApartSpec.fn H ([d0, .lit (.int .u8 z), d2] ++ []) = { results := [.lit (.bool true)], args := [d0, .lit (.int .u8 z), d2] } := by simp [Rows.stateApartSpec]
  refine ⟨_, rfl, _, _, _, [], p, [], hW', ?_, ?_, ?_, hb.frame _, fun h => by cases h⟩
  · rw [e1]; exact trodAll_mk1 (shut_bool Tryd.underlying4 _)
  · rw [e1]; exact trodAll_below (by kernel_rfl) hb _ _ _ _ (by kernel_rfl) hA2 (fun x hx => by simpa using hW'.lt x (by simpa using hx))
  · rw [e1]; rfl
theorem stateApart_holds : Rows.StateApartSaid :=
  OpenClaim.holds_of_wide 13 Tryd.f13 rfl rfl rfl rfl rfl rfl rfl ⟨rfl, rfl, rfl, rfl, rfl⟩ rfl rfl rfl rfl rfl (by kernel_rfl) Tryd.func13 (by kernel_rfl)
    (of_decide_eq_true (by kernel_rfl)) (by unfold Func.isWrapper; rw [if_neg (of_decide_eq_false (by kernel_rfl))]; exact ⟨rfl, rfl⟩)
    (fun os started H enc _ => stateApart_lifted os started H enc)
theorem stateApart_card : Rows.StateApartCardSaid :=
  Claim7.holds_tied_plain_at .later [] [.data, .data] true (true, "ae348317897b4f8711de699b2180ffb779772e4703cfa942f657876935132cc0") false
    stateApart_holds (fun _ h => by cases h) (by kernel_rfl) (fun _ h => by cases h) stateApart_row_tie rfl ⟨rfl, rfl⟩ (by kernel_rfl) rfl
    (fun f fn hf hfn => by
      obtain rfl : f = 13 := Option.some.inj ((show Tryd.prog.funcNamed "spinet/spinetlaw26.StateApart" = some 13 by kernel_rfl).symm.trans hf) |>.symm
      obtain rfl : fn = Tryd.f13 := (Option.some.inj (Tryd.func13.symm.trans hfn)).symm
      exact ⟨by kernel_rfl, fun j t ht => by
        rw [Tryd.params13] at ht
        have hm : t ∈ [97, 5, 99] := by simpa using Array.mem_of_getElem? ht
        have hall : ([97, 5, 99].all fun u => !Tryd.prog.wantsStandIn u) = true := by kernel_rfl
        exact (show Tryd.prog.wantsStandIn t = false by simpa using List.all_eq_true.1 hall t (by simpa using hm))⟩)
    (by kernel_rfl)
end Go.Proofs.YtcibajleknhklaaDoor
end

