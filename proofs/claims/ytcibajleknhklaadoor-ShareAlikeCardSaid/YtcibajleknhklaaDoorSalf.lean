/-
  ShareSheet, walked.
  (One text out of these parts: ShareW, Total, Best, Alloc, AllocF, ShareA, ShareP, RefA15, MapE, ShareF, LogK, LogA, LogP, LogM, LogC, Awake15, ShareT, ShareS.)
-/
import Derived.Test.YtcibajleknhklaaDoorSale
import Derived.BigQuiet
import Derived.WideKeyEntry
import Derived.Maps.OwnOps
import Derived.Maps.RangeWalk
import Derived.DeepKeys4
import Derived.WideKeyPair
import Derived.Great.BuildSlice
import Derived.Carry
section
namespace Go.Proofs.YtcibajleknhklaaDoor
open Go.RowKit Go.BigFrame Go.Vec Go.Cost
set_option linter.unusedSimpArgs false
set_option linter.unusedVariables false
abbrev A5 := 55
abbrev i64s : Nat → IntKind := fun _ => .i64
/-- A job: its share, its sheet, its mode, its slopes. -/
structure JobAt (jb hb sh : Nat) (s c : Int) (sl : Nat → Int) (w : World) : Prop where
  job : w.heap[jb]? = some (.cells #[.pointer (some ⟨hb, 0, none⟩), .int .i64 s, .int .i64 c, .int .i64 (sl 0), .int .i64 (sl 1), .int .i64 (sl 2), .int .i64 (sl 3), .int .i64 (sl 4)] 147 (0, 0))
  sha : w.heap[hb]? = some (.cells #[.pointer (some ⟨sh, 0, none⟩)] 77 (0, 0))
  sheet : SheetOK sh w
  wid : WidthW w
theorem sheet_lt {b : Nat} {w : World} (h : SheetOK b w) : b < w.heap.size := by
  obtain ⟨cs, h, _⟩ := h
  exact (Array.getElem?_eq_some_iff.1 h).1
theorem WidthW.below' {w w' : World} (h : WidthW w) (hb : Below w.heap.size w w') : WidthW w' := ⟨Nat.lt_of_lt_of_le h.1 hb.size, fun j hj => (World.cell?_of_block (w := w) (hb.block _ h.1)).trans (h.2 j hj)⟩
theorem JobAt.keep {jb hb sh s c sl} {w w' : World} (h : JobAt jb hb sh s c sl w) (hb' : Below w.heap.size w w') : JobAt jb hb sh s c sl w' :=
  ⟨(hb'.block _ (Array.getElem?_eq_some_iff.1 h.job).1).trans h.job, (hb'.block _ (Array.getElem?_eq_some_iff.1 h.sha).1).trans h.sha, h.sheet.below (sheet_lt h.sheet) hb', h.wid.below' hb'⟩
theorem JobAt.c0 {jb hb sh s c sl} {w : World} (h : JobAt jb hb sh s c sl w) : w.cell? ⟨jb, 0, none⟩ = some (.pointer (some ⟨hb, 0, none⟩)) := (block_facts h.job).1 0
theorem JobAt.c1 {jb hb sh s c sl} {w : World} (h : JobAt jb hb sh s c sl w) : w.cell? ⟨jb, 1, none⟩ = some (.int .i64 s) := (block_facts h.job).1 1
theorem JobAt.c2 {jb hb sh s c sl} {w : World} (h : JobAt jb hb sh s c sl w) : w.cell? ⟨jb, 2, none⟩ = some (.int .i64 c) := (block_facts h.job).1 2
theorem JobAt.cs {jb hb sh s c sl} {w : World} (h : JobAt jb hb sh s c sl w) (b : Nat) (hb5 : b < 5) : w.cell? ⟨jb, 3 + b, none⟩ = some (.int .i64 (sl b)) := by
  rw [(block_facts h.job).1 (3 + b)]
  rcases (show b = 0 ∨ b = 1 ∨ b = 2 ∨ b = 3 ∨ b = 4 by omega) with h | h | h | h | h <;> subst h <;> rfl
theorem JobAt.h0 {jb hb sh s c sl} {w : World} (h : JobAt jb hb sh s c sl w) : w.cell? ⟨hb, 0, none⟩ = some (.pointer (some ⟨sh, 0, none⟩)) := (block_facts h.sha).1 0
theorem JobAt.lt {jb hb sh s c sl} {w : World} (h : JobAt jb hb sh s c sl w) : jb < w.heap.size ∧ hb < w.heap.size := ⟨(block_facts h.job).2.2, (block_facts h.sha).2.2⟩
theorem capB (sh : Nat) (n : Int) (w : World) (h : SheetOK sh w) : Calls Tryd.prog 39 #[.pointer (some ⟨sh, 0, none⟩), .int .i64 n] w fun e w' => e = .returned (.int .i64 (capF n)) ∧ Below w.heap.size w w' :=
  (sheetCap sh w h n).mono fun e w' ⟨h1, h2⟩ => ⟨h1, by subst h2; exact Below.refl _ _⟩
theorem bitsB (sh : Nat) (n k : Int) (w : World) (h : SheetOK sh w) : Calls Tryd.prog 37 #[.pointer (some ⟨sh, 0, none⟩), .int .i64 n, .int .i64 k] w fun e w' => e = .returned (.int .i64 (bitsF n k)) ∧ Below w.heap.size w w' :=
  (sheetBits sh w h n k).mono fun e w' ⟨h1, h2⟩ => ⟨h1, by subst h2; exact Below.refl _ _⟩
section
variable {P : Program} {ops : Array Oper} {rest : List Oper} {o : Oper} {a : Act} {w : World} {Q : Exit → Act → World → Prop}
theorem gate_load (ty : TypeId) (x : Operand) (ho : o.op = .load ty x) (h : wpList P ops Q (o :: rest) a w) : wpList P ops Q (o :: rest) a w := h
end
/-- All pulses up to a level. -/
def atF (s c : Int) (sl : Nat → Int) (lv : Int) (b : Nat) : Int := min (lv / sl b) (capF (widthF s c b))
def atTo (s c : Int) (sl : Nat → Int) (lv : Int) (n : Nat) : Nat → Int := fun b => if b < n then atF s c sl lv b else 0
/-- The call's frame: the result, the pulses. -/
structure JA (w : World) (B jb hb sh : Nat) (s c : Int) (sl f : Nat → Int) (W : World) : Prop where
  below : Below B w W
  rb : Bx B A5 i64s 5 (fun _ => 0) W
  kb : Bx (B + 1) A5 i64s 5 f W
  job : JobAt jb hb sh s c sl W
  jl : jb < B ∧ hb < B ∧ sh < B
  gl : 1 < B
theorem JA.keep {w B jb hb sh s c sl f} {W W' : World} (h : JA w B jb hb sh s c sl f W) (hb' : Below W.heap.size W W') : JA w B jb hb sh s c sl f W' :=
  ⟨h.below.trans (hb'.mono (by have := (block_facts h.rb).2.2; omega)), h.rb.keep hb', h.kb.keep hb', h.job.keep hb', h.jl, h.gl⟩
theorem JobAt.only {jb hb sh s c sl} {q : Nat} {w w' : World} (h : JobAt jb hb sh s c sl w) (ho : Only q w w') (hj : jb < q) (hh : hb < q) (hs : sh < q) (hg : 1 < q) : JobAt jb hb sh s c sl w' := by
  have hB : Below q w w' := ho.below (Below.refl q w) (Nat.le_refl _)
  exact ⟨(ho.block _ (by omega)).trans h.job, (ho.block _ (by omega)).trans h.sha, h.sheet.below hs hB, ⟨by rw [ho.size]; exact h.wid.1, fun j hj => (World.cell?_of_block (w := w) (ho.block 1 (by omega))).trans (h.wid.2 j hj)⟩⟩
theorem JA.onlyK {w B jb hb sh s c sl f} {f' : Nat → Int} {W W' : World} (h : JA w B jb hb sh s c sl f W) (ho : Only (B + 1) W W') (hf : Bx (B + 1) A5 i64s 5 f' W') : JA w B jb hb sh s c sl f' W' := by
  have h1 := h.jl
  have h2 := h.gl
  exact ⟨ho.below h.below (by omega), (ho.block _ (by omega)).trans h.rb, hf, h.job.only ho (by omega) (by omega) (by omega) (by omega), h1, h2⟩
theorem info5 : (Tryd.prog.info? A5).map (·.size) = some 5 := by kernel_rfl
theorem info5_ag (f : Nat → Int) : (Tryd.prog.info? A5).map (·.size) = some (ag i64s 5 f).size := by rw [ag_size]; exact info5
set_option maxHeartbeats 2000000 in
set_option maxRecDepth 100000 in
theorem shAt (jb hb sh : Nat) (s c : Int) (sl : Nat → Int) (nb : Nat) (hnb : bandsF s c = nb) (hsl : ∀ b, b < nb → 1 ≤ sl b ∧ sl b ≤ 64) (lv : Int) (hlv : 0 ≤ lv ∧ lv ≤ 100000) (w : World) (h : JobAt jb hb sh s c sl w) :
    Calls Tryd.prog 77 #[.pointer (some ⟨jb, 0, none⟩), .int .i64 lv] w fun e w' => e = .returned (.agg (ag i64s 5 (atTo s c sl lv nb))) ∧ Below w.heap.size w w' := by
  have HJ := Lib.hid h
  have hbn := Lib.hid (fun w => modeBands s c w)
  rw [hnb] at hbn
  have hnb5 : nb ≤ 5 := by have := bandsF_bd s c; omega
  have hwd := Lib.hid (fun (b : Int) w hT => modeWidth s c b w hT)
  have hcp := Lib.hid (fun n w hS => capB sh n w hS)
  have HSL := Lib.hid hsl
  have HNB := Lib.hid hnb
  have hlt := h.lt
  clear h hsl hnb
  go_enter Tryd.func77, Tryd.ntmps77
  go_upto_region 2 with fail
  refine cut_world (fun W => JA w w.heap.size jb hb sh s c sl (fun _ => 0) W) ⟨by (repeat' (first | (with_reducible exact Below.refl _ _) | (with_reducible assumption) | (with_reducible refine Below.alloc ?_ ?_ _) | (with_reducible refine below_grew ?_ ?_ _) | (with_reducible refine Below.setCell ?_ ?_ _) | (with_reducible refine Below.drew ?_) | (with_reducible refine below_drewN ?_ _) | omega | (simp; done) | (simp; omega))), alloc_two _ _ _, alloc_secondOf _ _ _, HJ.out.keep (by (repeat' (first | (with_reducible exact Below.refl _ _) | (with_reducible assumption) | (with_reducible refine Below.alloc ?_ ?_ _) | (with_reducible refine below_grew ?_ ?_ _) | (with_reducible refine Below.setCell ?_ ?_ _) | (with_reducible refine Below.drew ?_) | (with_reducible refine below_drewN ?_ _) | omega | (simp; done) | (simp; omega)))), ⟨hlt.1, hlt.2, sheet_lt HJ.out.sheet⟩, HJ.out.wid.1⟩ ?_
  intro V hV
  generalize hBd : w.heap.size = B at *
  have HBd := Lib.hid hBd
  have HV := Lib.hid hV
  have hj1 := hV.job.c1
  have hj2 := hV.job.c2
  have hjl := hV.job.lt
  clear hBd hV hlt
  go_wp2_with (go_at_call 53; refine (hbn.out _).mono ?_; rintro e wn ⟨rfl, hbb⟩; have HV2 := Lib.hid (HV.out.keep hbb); clear hbb)
  clear hj1 hj2 hjl HV HJ
  go_loopw [6, 12] (fun v6 cnt wr => ∃ b : Nat, b ≤ nb ∧ cnt = .int .i64 b ∧ JA w B jb hb sh s c sl (atTo s c sl lv b) wr) (fun _ cnt _ => nb - (intOf cnt).toNat)
  case atStart => exact ⟨0, by omega, rfl, by have := HV2.out; rwa [show (fun _ => (0 : Int)) = atTo s c sl lv 0 from by funext j; unfold atTo; rw [if_neg (by omega)]] at this⟩
  case round =>
    clear HV2
    obtain ⟨b, hbl, rfl, hL⟩ := hrel
    have HL := Lib.hid hL
    have hb0 : (0 : Int) ≤ b := by omega
    have hjl := hL.job.lt
    have hj0 := hL.job.c0
    have hj1 := hL.job.c1
    have hj2 := hL.job.c2
    have hh0 := hL.job.h0
    clear hL
    by_cases hlt : b < nb
    · have hlt' : (b : Int) < nb := by omega
      have hb5 : (b : Int) < 5 := by omega
      have hjs := HL.out.job.cs b (by omega)
      have hq := HSL.out b hlt
      obtain ⟨q, hqe⟩ : ∃ q, sl b = q := ⟨_, rfl⟩
      rw [hqe] at hjs hq
      have HQE := Lib.hid hqe
      have hq0 : ¬ q = 0 := by omega
      have hq00 : (0 : Int) ≤ q := by omega
      have hlv0 : (0 : Int) ≤ lv := hlv.1
      have hkf := (block_facts HL.out.kb).2.1 b
      have hkc := ag_cell HL.out.kb b (by omega)
      clear hqe hlt
      go_upto_region 5 with fail
      first | refine wp_region_grew2 25 (by kernel_rfl) (by kernel_rfl) ?_ | refine wp_region_grew 25 (by kernel_rfl) (by kernel_rfl) ?_
      simp only [List.take_succ_cons, List.take_zero, List.drop_succ_cons, List.drop_zero]
      repeat (go_big_quiet_step (first | (go_at_call 114; exact Calls.grew_of (hwd.out _ _ (HL.out.keep (by (repeat' (first | (with_reducible exact Below.refl _ _) | (with_reducible assumption) | (with_reducible refine Below.alloc ?_ ?_ _) | (with_reducible refine below_grew ?_ ?_ _) | (with_reducible refine Below.setCell ?_ ?_ _) | (with_reducible refine Below.drew ?_) | (with_reducible refine below_drewN ?_ _) | omega | (simp; done) | (simp; omega))))).job.wid)) | (go_at_call 39; exact Calls.grew_of (hcp.out _ _ (HL.out.keep (by (repeat' (first | (with_reducible exact Below.refl _ _) | (with_reducible assumption) | (with_reducible refine Below.alloc ?_ ?_ _) | (with_reducible refine below_grew ?_ ?_ _) | (with_reducible refine Below.setCell ?_ ?_ _) | (with_reducible refine Below.drew ?_) | (with_reducible refine below_drewN ?_ _) | omega | (simp; done) | (simp; omega))))).job.sheet))))
      refine wpQuiet_nil ?_
      rintro _ ⟨x, rfl⟩
      have hl2 := HL.out.keep (W' := wr.grew x) (by (repeat' (first | (with_reducible exact Below.refl _ _) | (with_reducible assumption) | (with_reducible refine Below.alloc ?_ ?_ _) | (with_reducible refine below_grew ?_ ?_ _) | (with_reducible refine Below.setCell ?_ ?_ _) | (with_reducible refine Below.drew ?_) | (with_reducible refine below_drewN ?_ _) | omega | (simp; done) | (simp; omega))))
      have kc2 := ag_cell hl2.kb b (by omega)
      have kf2 := (block_facts hl2.kb).2.1 b
      have HL2 := Lib.hid hl2
      clear hl2 hkf hkc hj0 hj1 hj2 hh0 hjs hq hq0 hq00 hlv0
      go_upto_region 6 with fail
      clear kc2 kf2
      refine cut_world (fun W => JA w B jb hb sh s c sl (atTo s c sl lv (b + 1)) W) (HL2.out.onlyK (only_setCell _ ⟨B + 1, b, none⟩ _) ?_) ?_
      · have h5 := ag_store HL2.out.kb b (by omega) (min (lv / q) (capF (widthF s c b)))
        have e5 : ag i64s 5 (updI (atTo s c sl lv b) b (min (lv / q) (capF (widthF s c b)))) = ag i64s 5 (atTo s c sl lv (b + 1)) := ag_ext _ _ _ _ fun j hj => by
          unfold updI atTo atF
          by_cases e : j = b
          · rw [if_pos e, if_pos (by omega), e, HQE.out]
          · rw [if_neg e]
            by_cases e2 : j < b
            · rw [if_pos e2, if_pos (by omega)]
            · rw [if_neg e2, if_neg (by omega)]
        rw [e5] at h5
        exact h5
      clear HL2 HL
      intro V5 hV5
      have HV5 := Lib.hid hV5
      clear hV5
      go_wp2_with fail
      go_roundw
      case rel => exact ⟨b + 1, by omega, rfl, HV5.out⟩
      case measure => simp [intOf]; omega
    · have hlt' : ¬ (b : Int) < nb := by omega
      obtain rfl : b = nb := by omega
      clear hlt hj0 hj1 hj2 hh0 hjl
      go_wp2_with (first | ((with_reducible refine gate_load A5 _ rfl ?_); refine load_row_g rfl A5 _ rfl (B + 1) rfl _ (ag i64s 5 (atTo s c sl lv b)) (0, 0) _ HL.out.kb Tryd.underlying55 rfl ?hin ?_; (case hin => exact info5_ag _)) | (refine wpList_store_mid rfl A5 _ _ rfl B 0 (ag i64s 5 (atTo s c sl lv b)) rfl rfl ?hth ?hin ?hon ?_; (case hth => exact there_row HL.out.rb _ (by rw [ag_size, ag_size]; exact Nat.le_refl _)); (case hin => exact info5_ag _); (case hon => exact ag_one i64s 5 _)))
      have q1 := cells_all HL.out.rb (N := 5) (ag_size _ _ _) (cs := ag i64s 5 (atTo s c sl lv b)) (ag_size _ _ _)
      have hfin : Below w.heap.size w (wr.setCells B 0 (ag i64s 5 (atTo s c sl lv b)).toList) := (only_setCells _ _ _ _).below (by rw [HBd.out]; exact HL.out.below) (by rw [HBd.out]; exact Nat.le_refl _)
      refine bodyPost_ret (v := .agg (ag i64s 5 (atTo s c sl lv b))) ?_ rfl ⟨rfl, hfin⟩
      exact results_cell_row rfl _ _ B _ _ _ _ rfl q1 Tryd.underlying55 rfl (info5_ag _)
/-- What so many bands cost. -/
def sumK (s c : Int) (k : Nat → Int) : Nat → Int
  | 0 => 0
  | b + 1 => sumK s c k b + bitsF (widthF s c b) (k b)
theorem bitsF_b (n k : Int) : -1 ≤ bitsF n k ∧ bitsF n k ≤ 200 := by
  unfold bitsF
  split
  · rename_i h
    have hp := capF_pos n k h.1 h.2
    have := pays_le ⟨n.toNat, by omega⟩ ⟨k.toNat, by omega⟩
    simp only at this
    omega
  · omega
theorem sumK_bd (s c : Int) (k : Nat → Int) : ∀ n : Nat, -(n : Int) ≤ sumK s c k n ∧ sumK s c k n ≤ 200 * n
  | 0 => by simp [sumK]
  | n + 1 => by
    have h := sumK_bd s c k n
    have h2 := bitsF_b (widthF s c n) (k n)
    simp only [sumK]
    omega
/-- The call's frame: the pulses that came. -/
structure JT (w : World) (B jb hb sh : Nat) (s c : Int) (sl k : Nat → Int) (W : World) : Prop where
  below : Below B w W
  kb : Bx B A5 i64s 5 k W
  job : JobAt jb hb sh s c sl W
theorem JT.keep {w B jb hb sh s c sl k} {W W' : World} (h : JT w B jb hb sh s c sl k W) (hb' : Below W.heap.size W W') : JT w B jb hb sh s c sl k W' :=
  ⟨h.below.trans (hb'.mono (by have := (block_facts h.kb).2.2; omega)), h.kb.keep hb', h.job.keep hb'⟩
set_option maxHeartbeats 2000000 in
set_option maxRecDepth 100000 in
theorem shTotal (jb hb sh : Nat) (s c : Int) (sl k : Nat → Int) (nb : Nat) (hnb : bandsF s c = nb) (w : World) (h : JobAt jb hb sh s c sl w) :
    Calls Tryd.prog 76 #[.pointer (some ⟨jb, 0, none⟩), .agg (ag i64s 5 k)] w fun e w' => e = .returned (.int .i64 (sumK s c k nb * c)) ∧ Below w.heap.size w w' := by
  have HJ := Lib.hid h
  have hbn := Lib.hid (fun w => modeBands s c w)
  rw [hnb] at hbn
  have hnb5 : nb ≤ 5 := by have := bandsF_bd s c; omega
  have hcc : wrap64 (sumK s c k nb * c) = sumK s c k nb * c := by
    have hbd := sumK_bd s c k nb
    by_cases hR : RightP s c
    · have hc : c = 1 ∨ c = 2 := by unfold RightP at hR; omega
      rcases hc with rfl | rfl <;> unfold wrap64 <;> omega
    · have h0 : nb = 0 := by unfold bandsF at hnb; rw [if_neg hR] at hnb; omega
      subst h0
      simp only [sumK, Int.zero_mul]
      decide +kernel
  have HCC := Lib.hid hcc
  have hwd := Lib.hid (fun (b : Int) w hT => modeWidth s c b w hT)
  have hbt := Lib.hid (fun n k w hS => bitsB sh n k w hS)
  have HNB := Lib.hid hnb
  have hlt := h.lt
  clear h hnb hcc
  go_enter Tryd.func76, Tryd.ntmps76
  go_upto_region 2 with fail
  refine cut_world (fun W => JT w w.heap.size jb hb sh s c sl k W) ⟨by (repeat' (first | (with_reducible exact Below.refl _ _) | (with_reducible assumption) | (with_reducible refine Below.alloc ?_ ?_ _) | (with_reducible refine below_grew ?_ ?_ _) | (with_reducible refine Below.setCell ?_ ?_ _) | (with_reducible refine Below.drew ?_) | (with_reducible refine below_drewN ?_ _) | omega | (simp; done) | (simp; omega))), alloc_at _ _, HJ.out.keep (by (repeat' (first | (with_reducible exact Below.refl _ _) | (with_reducible assumption) | (with_reducible refine Below.alloc ?_ ?_ _) | (with_reducible refine below_grew ?_ ?_ _) | (with_reducible refine Below.setCell ?_ ?_ _) | (with_reducible refine Below.drew ?_) | (with_reducible refine below_drewN ?_ _) | omega | (simp; done) | (simp; omega))))⟩ ?_
  intro V hV
  generalize hBd : w.heap.size = B at *
  have HBd := Lib.hid hBd
  have HV := Lib.hid hV
  have hj1 := hV.job.c1
  have hj2 := hV.job.c2
  have hjl := hV.job.lt
  clear hBd hV hlt
  go_wp2_with (go_at_call 53; refine (hbn.out _).mono ?_; rintro e wn ⟨rfl, hbb⟩; have HV2 := Lib.hid (HV.out.keep hbb); clear hbb)
  clear hj1 hj2 hjl HV HJ
  go_loopw [5, 6, 12] (fun v5 v6 cnt wr => ∃ b : Nat, b ≤ nb ∧ cnt = .int .i64 b ∧ v5 = .int .i64 (sumK s c k b) ∧ JT w B jb hb sh s c sl k wr) (fun _ _ cnt _ => nb - (intOf cnt).toNat)
  case atStart => exact ⟨0, by omega, rfl, rfl, HV2.out⟩
  case round =>
    clear HV2
    obtain ⟨b, hbl, rfl, rfl, hL⟩ := hrel
    have HL := Lib.hid hL
    have hb0 : (0 : Int) ≤ b := by omega
    have hjl := hL.job.lt
    have hj0 := hL.job.c0
    have hj1 := hL.job.c1
    have hj2 := hL.job.c2
    have hh0 := hL.job.h0
    clear hL
    by_cases hlt : b < nb
    · have hlt' : (b : Int) < nb := by omega
      have hb5 : (b : Int) < 5 := by omega
      have hkc := ag_cell HL.out.kb b (by omega)
      have hkl := (block_facts HL.out.kb).2.2
      have hs1 := sumK_bd s c k b
      have hs2 := bitsF_b (widthF s c b) (k b)
      have HNX := Lib.hid (show sumK s c k (b + 1) = sumK s c k b + bitsF (widthF s c b) (k b) from rfl)
      obtain ⟨S, hS⟩ : ∃ S, sumK s c k b = S := ⟨_, rfl⟩
      rw [hS] at hs1 HNX
      rw [hS]
      have hws : wrap64 (S + bitsF (widthF s c b) (k b)) = S + bitsF (widthF s c b) (k b) := by unfold wrap64; omega
      have HWS := Lib.hid hws
      clear hlt hS hs1 hs2 hws
      go_upto_region 5 with fail
      first | refine wp_region_grew2 19 (by kernel_rfl) (by kernel_rfl) ?_ | refine wp_region_grew 19 (by kernel_rfl) (by kernel_rfl) ?_
      simp only [List.take_succ_cons, List.take_zero, List.drop_succ_cons, List.drop_zero]
      repeat (go_big_quiet_step (first | (go_at_call 114; exact Calls.grew_of (hwd.out _ _ (HL.out.keep (by (repeat' (first | (with_reducible exact Below.refl _ _) | (with_reducible assumption) | (with_reducible refine Below.alloc ?_ ?_ _) | (with_reducible refine below_grew ?_ ?_ _) | (with_reducible refine Below.setCell ?_ ?_ _) | (with_reducible refine Below.drew ?_) | (with_reducible refine below_drewN ?_ _) | omega | (simp; done) | (simp; omega))))).job.wid)) | (go_at_call 37; exact Calls.grew_of (hbt.out _ _ _ (HL.out.keep (by (repeat' (first | (with_reducible exact Below.refl _ _) | (with_reducible assumption) | (with_reducible refine Below.alloc ?_ ?_ _) | (with_reducible refine below_grew ?_ ?_ _) | (with_reducible refine Below.setCell ?_ ?_ _) | (with_reducible refine Below.drew ?_) | (with_reducible refine below_drewN ?_ _) | omega | (simp; done) | (simp; omega))))).job.sheet))))
      refine wpQuiet_nil ?_
      rintro _ ⟨x, rfl⟩
      have HL2 := Lib.hid (HL.out.keep (W' := wr.grew x) (by (repeat' (first | (with_reducible exact Below.refl _ _) | (with_reducible assumption) | (with_reducible refine Below.alloc ?_ ?_ _) | (with_reducible refine below_grew ?_ ?_ _) | (with_reducible refine Below.setCell ?_ ?_ _) | (with_reducible refine Below.drew ?_) | (with_reducible refine below_drewN ?_ _) | omega | (simp; done) | (simp; omega)))))
      clear hj0 hj1 hj2 hh0 hkc hkl hjl HL
      rw [HWS.out]
      go_wp2_with fail
      go_roundw
      case rel => exact ⟨b + 1, by omega, rfl, by rw [HNX.out], HL2.out⟩
      case measure => simp [intOf]; omega
    · have hlt' : ¬ (b : Int) < nb := by omega
      obtain rfl : b = nb := by omega
      clear hlt
      go_upto_region 7 with fail
      clear hlt'
      go_wp2_with fail
      go_ret
      refine ⟨?_, by rw [HBd.out]; exact HL.out.below⟩
      rw [HCC.out]
      rfl
/-- A level above which there is no pulse. -/
def topTo (s c : Int) (sl : Nat → Int) : Nat → Int
  | 0 => 0
  | b + 1 => max (topTo s c sl b) (sl b * capF (widthF s c b))
theorem capF_w (s c : Int) (b nb : Nat) (hnb : bandsF s c = nb) (hb : b < nb) : 1 ≤ capF (widthF s c b) ∧ capF (widthF s c b) ≤ 32 := by
  have h := capF_bd (widthF s c b)
  have hw : widthF s c b = widL.getD b 0 := by unfold widthF; rw [if_pos ⟨by omega, by omega⟩]; simp
  have hb5 := bandsF_bd s c
  have h5 : ∀ i : Fin 5, 1 ≤ capF (widL.getD i.val 0) := by decide +kernel
  have := h5 ⟨b, by omega⟩
  rw [hw] at h ⊢
  simp only at this
  omega
theorem topTo_bd (s c : Int) (sl : Nat → Int) (nb : Nat) (hnb : bandsF s c = nb) (hsl : ∀ b, b < nb → 1 ≤ sl b ∧ sl b ≤ 64) : ∀ n : Nat, n ≤ nb → 0 ≤ topTo s c sl n ∧ topTo s c sl n ≤ 2048
  | 0, _ => by simp [topTo]
  | n + 1, h => by
    have h1 := topTo_bd s c sl nb hnb hsl n (by omega)
    have h2 := hsl n (by omega)
    have h3 := capF_w s c n nb hnb (by omega)
    have h4 : sl n * capF (widthF s c n) ≤ 64 * 32 := Int.mul_le_mul h2.2 h3.2 (by omega) (by omega)
    rw [topTo]
    omega
set_option maxHeartbeats 2000000 in
set_option maxRecDepth 100000 in
theorem shTop (jb hb sh : Nat) (s c : Int) (sl : Nat → Int) (nb : Nat) (hnb : bandsF s c = nb) (hsl : ∀ b, b < nb → 1 ≤ sl b ∧ sl b ≤ 64) (w : World) (h : JobAt jb hb sh s c sl w) :
    Calls Tryd.prog 75 #[.pointer (some ⟨jb, 0, none⟩)] w fun e w' => e = .returned (.int .i64 (topTo s c sl nb)) ∧ Below w.heap.size w w' := by
  have HJ := Lib.hid h
  have hbn := Lib.hid (fun w => modeBands s c w)
  have hnb5 : nb ≤ 5 := by have := bandsF_bd s c; omega
  have hwd := Lib.hid (fun (b : Int) w hT => modeWidth s c b w hT)
  have hcp := Lib.hid (fun n w hS => capB sh n w hS)
  have HTB := Lib.hid (topTo_bd s c sl nb hnb hsl)
  have HCW := Lib.hid (fun b hb => capF_w s c b nb hnb hb)
  have HSL := Lib.hid hsl
  rw [hnb] at hbn
  have hlt := h.lt
  have hj1 := h.c1
  have hj2 := h.c2
  clear h hnb hsl
  go_enter Tryd.func75, Tryd.ntmps75
  go_wp2_with (go_at_call 53; refine (hbn.out _).mono ?_; rintro e wn ⟨rfl, hbb⟩; have HV2 := Lib.hid (And.intro (HJ.out.keep hbb) hbb); clear hbb)
  clear hj1 hj2 hlt HJ
  go_loopw [3, 4, 10] (fun v3 v4 cnt wr => ∃ b : Nat, b ≤ nb ∧ cnt = .int .i64 b ∧ v3 = .int .i64 (topTo s c sl b) ∧ JobAt jb hb sh s c sl wr ∧ Below w.heap.size w wr) (fun _ _ cnt _ => nb - (intOf cnt).toNat)
  case atStart => exact ⟨0, by omega, rfl, rfl, HV2.out.1, HV2.out.2⟩
  case round =>
    clear HV2
    obtain ⟨b, hbl, rfl, rfl, hL, hbw⟩ := hrel
    have HL := Lib.hid hL
    have HBW := Lib.hid hbw
    have hb0 : (0 : Int) ≤ b := by omega
    have hjl := hL.lt
    have hj0 := hL.c0
    have hj1 := hL.c1
    have hj2 := hL.c2
    have hh0 := hL.h0
    clear hL hbw
    by_cases hlt : b < nb
    · have hlt' : (b : Int) < nb := by omega
      have hb5 : (b : Int) < 5 := by omega
      have hjs := HL.out.cs b (by omega)
      have h2 := HSL.out b hlt
      have h3 := HCW.out b hlt
      have HNX := Lib.hid (show topTo s c sl (b + 1) = max (topTo s c sl b) (sl b * capF (widthF s c b)) from rfl)
      obtain ⟨S, hS⟩ : ∃ S, topTo s c sl b = S := ⟨_, rfl⟩
      obtain ⟨q, hq⟩ : ∃ q, sl b = q := ⟨_, rfl⟩
      rw [hS, hq] at HNX
      rw [hq] at hjs h2
      rw [hS]
      have hws : wrap64 (q * capF (widthF s c b)) = q * capF (widthF s c b) := by
        have h4 : q * capF (widthF s c b) ≤ 64 * 32 := Int.mul_le_mul h2.2 h3.2 (by omega) (by omega)
        have h5 : 0 ≤ q * capF (widthF s c b) := Int.mul_nonneg (by omega) (by omega)
        unfold wrap64; omega
      have HWS := Lib.hid hws
      clear hlt hS hq h2 h3 hws
      go_upto_region 5 with fail
      first | refine wp_region_grew2 23 (by kernel_rfl) (by kernel_rfl) ?_ | refine wp_region_grew 23 (by kernel_rfl) (by kernel_rfl) ?_
      simp only [List.take_succ_cons, List.take_zero, List.drop_succ_cons, List.drop_zero]
      repeat (go_big_quiet_step (first | (go_at_call 114; exact Calls.grew_of (hwd.out _ _ (HL.out.keep (by (repeat' (first | (with_reducible exact Below.refl _ _) | (with_reducible assumption) | (with_reducible refine Below.alloc ?_ ?_ _) | (with_reducible refine below_grew ?_ ?_ _) | (with_reducible refine Below.setCell ?_ ?_ _) | (with_reducible refine Below.drew ?_) | (with_reducible refine below_drewN ?_ _) | omega | (simp; done) | (simp; omega))))).wid)) | (go_at_call 39; exact Calls.grew_of (hcp.out _ _ (HL.out.keep (by (repeat' (first | (with_reducible exact Below.refl _ _) | (with_reducible assumption) | (with_reducible refine Below.alloc ?_ ?_ _) | (with_reducible refine below_grew ?_ ?_ _) | (with_reducible refine Below.setCell ?_ ?_ _) | (with_reducible refine Below.drew ?_) | (with_reducible refine below_drewN ?_ _) | omega | (simp; done) | (simp; omega))))).sheet))))
      refine wpQuiet_nil ?_
      rintro _ ⟨x, rfl⟩
      have HL2 := Lib.hid (HL.out.keep (w' := wr.grew x) (by (repeat' (first | (with_reducible exact Below.refl _ _) | (with_reducible assumption) | (with_reducible refine Below.alloc ?_ ?_ _) | (with_reducible refine below_grew ?_ ?_ _) | (with_reducible refine Below.setCell ?_ ?_ _) | (with_reducible refine Below.drew ?_) | (with_reducible refine below_drewN ?_ _) | omega | (simp; done) | (simp; omega)))))
      have HBW2 := Lib.hid (HBW.out.trans (Below.mono (B := wr.heap.size) (w' := wr.grew x) (by (repeat' (first | (with_reducible exact Below.refl _ _) | (with_reducible assumption) | (with_reducible refine Below.alloc ?_ ?_ _) | (with_reducible refine below_grew ?_ ?_ _) | (with_reducible refine Below.setCell ?_ ?_ _) | (with_reducible refine Below.drew ?_) | (with_reducible refine below_drewN ?_ _) | omega | (simp; done) | (simp; omega)))) HBW.out.size))
      clear hj0 hj1 hj2 hh0 hjs hjl HL HBW
      rw [HWS.out]
      go_wp2_with fail
      go_roundw
      case rel => exact ⟨b + 1, by omega, rfl, by rw [HNX.out], HL2.out, HBW2.out⟩
      case measure => simp [intOf]; omega
    · have hlt' : ¬ (b : Int) < nb := by omega
      obtain rfl : b = nb := by omega
      clear hlt hj0 hj1 hj2 hh0 hjl
      go_wp2_with fail
      go_ret
      exact ⟨rfl, HBW.out⟩
end Go.Proofs.YtcibajleknhklaaDoor
end

section
namespace Go.Proofs.YtcibajleknhklaaDoor
open Go.RowKit Go.BigFrame Go.Vec Go.Cost
set_option linter.unusedSimpArgs false
theorem bitsF_bd (n k : Int) : -1 ≤ bitsF n k ∧ bitsF n k ≤ 200 := by
  unfold bitsF
  split
  · rename_i h
    have hp := capF_pos n k h.1 h.2
    have := pays_le ⟨n.toNat, by omega⟩ ⟨k.toNat, by omega⟩
    simp only at this
    omega
  · omega
def costAt (s c : Int) (l : List Int) (b : Nat) : Int := if (b : Int) < bandsF s c then bitsF (widthF s c b) (l.getD b 0) else 0
def okAt (s c : Int) (l : List Int) (b : Nat) : Bool := if (b : Int) < bandsF s c then decide (0 ≤ bitsF (widthF s c b) (l.getD b 0)) else decide (l.getD b 0 = 0)
def sumAt (s c : Int) (l : List Int) : Nat → Int
  | 0 => 0
  | b + 1 => sumAt s c l b + costAt s c l b
def okTo (s c : Int) (l : List Int) : Nat → Bool
  | 0 => true
  | b + 1 => okTo s c l b && okAt s c l b
def totalF (s c : Int) (l : List Int) : Int := if RightP s c ∧ okTo s c l 5 = true then sumAt s c l 5 * c else -1
theorem sumAt_bd (s c : Int) (l : List Int) : ∀ b : Nat, -(b : Int) ≤ sumAt s c l b ∧ sumAt s c l b ≤ 200 * b
  | 0 => by simp [sumAt]
  | b + 1 => by
    have h := sumAt_bd s c l b
    have h2 := bitsF_bd (widthF s c b) (l.getD b 0)
    simp only [sumAt, costAt]
    split <;> omega
theorem okTo_false {s c : Int} {l : List Int} : ∀ {b : Nat}, b < 5 → okAt s c l b = false → okTo s c l 5 = false := by
  intro b hb h
  have : b = 0 ∨ b = 1 ∨ b = 2 ∨ b = 3 ∨ b = 4 := by omega
  simp only [okTo]
  rcases this with rfl | rfl | rfl | rfl | rfl <;> simp [h]
theorem WidthW.ne {b m : Nat} {w : World} (h : WidthW w) (hB : Book b m w) : m ≠ 1 := by
  intro e
  obtain ⟨es, clk, h1, _⟩ := hB.map
  have h2 := h.2 0 (by omega)
  subst e
  simp [World.cell?, h1] at h2
theorem WidthW.inv {b m : Nat} {w w' : World} (h : WidthW w) (hB : Book b m w) (hi : BkInv m w w') : WidthW w' :=
  ⟨Nat.lt_of_lt_of_le h.1 hi.size, fun j hj => (World.cell?_of_block (w := w) (hi.block _ h.1 (h.ne hB))).trans (h.2 j hj)⟩
theorem total_any (s c : Int) (k0 k1 k2 k3 k4 : Int) (b m : Nat) (w : World) (hB : Book b m w) (hT : WidthW w) :
    Calls Tryd.prog 85 #[.pointer (some ⟨b, 0, none⟩), .agg #[.int .i64 s, .int .i64 c], .agg #[.int .i64 k0, .int .i64 k1, .int .i64 k2, .int .i64 k3, .int .i64 k4]] w fun e w' => e = .returned (.int .i64 (totalF s c [k0, k1, k2, k3, k4])) ∧ Bk m w w' := by
  obtain ⟨l, hl⟩ : ∃ l, l = [k0, k1, k2, k3, k4] := ⟨_, rfl⟩
  have hx : ∀ n, n < 5 → (#[.int .i64 k0, .int .i64 k1, .int .i64 k2, .int .i64 k3, .int .i64 k4] : Array Value)[n]? = some (.int .i64 (l.getD n 0)) := fun n hn => by
    have : n = 0 ∨ n = 1 ∨ n = 2 ∨ n = 3 ∨ n = 4 := by omega
    subst hl
    rcases this with rfl | rfl | rfl | rfl | rfl <;> rfl
  rw [← hl]
  obtain ⟨W, hW⟩ : ∃ W, W = (w.alloc (.cells #[.int .i64 s, .int .i64 c] 60)).alloc (.cells #[.int .i64 k0, .int .i64 k1, .int .i64 k2, .int .i64 k3, .int .i64 k4] 55) := ⟨_, rfl⟩
  have hWi : BkInv m w W := by subst hW; exact (hB.refl.alloc _).alloc _
  have hBW := hB.inv hWi
  have hTW := hT.inv hB hWi
  obtain ⟨y0, hy0⟩ := bkInv_as hBW.refl
  have HX := Lib.hid hx
  have hbands := Lib.hid (fun w => modeBands s c w)
  have hwid := Lib.hid (fun n y => modeWidth s c n (W.bkd m y) (hTW.inv hBW (hBW.refl.bkd y)))
  have hbits := Lib.hid (fun n k => bits_any hBW n k)
  have hml := hB.lt_m
  have c1 : W.cell? ⟨w.heap.size, 0, none⟩ = some (.int .i64 s) := by subst hW; simp [go_sem]
  have c2 : W.cell? ⟨w.heap.size, 1, none⟩ = some (.int .i64 c) := by subst hW; simp [go_sem]
  have d1 : w.heap.size < W.heap.size := by subst hW; simp; omega
  have d2 : m ≠ w.heap.size := by omega
  have d3 : m < W.heap.size := by omega
  have HW := Lib.hid hW
  have hA := hy0
  rw [hW] at hA
  have HA := Lib.hid hA
  clear hl hx hW hA hy0
  go_enter Tryd.func85, Tryd.ntmps85
  go_wp2
  go_loopw [7, 12] (fun sum cnt wr => ∃ n : Nat, n ≤ 5 ∧ cnt = .int .i64 n ∧ sum = .int .i64 (sumAt s c l n) ∧ okTo s c l n = true ∧ ∃ y, wr = W.bkd m y) (fun _ cnt _ => 5 - (intOf cnt).toNat)
  case atStart => exact ⟨0, by omega, rfl, rfl, rfl, y0, HA.out.trans (by rw [HW.out])⟩
  case round =>
    obtain ⟨n, hn, rfl, rfl, hok, y, rfl⟩ := hrel
    by_cases hlt : n < 5
    · have hlt' : (n : Int) < 5 := by omega
      have hix := run_index_one (P := Tryd.prog) 55 3 5 _ n _ _ Tryd.underlying55 Tryd.underlying3 (by refine ⟨fun _ h => ?_, fun _ _ h => ?_⟩ <;> cases h) (by kernel_rfl) hlt (HX.out n hlt)
      have sb := sumAt_bd s c l n
      by_cases hnb : (n : Int) < bandsF s c
      · have bb := bitsF_bd (widthF s c n) (l.getD n 0)
        by_cases hb0 : 0 ≤ bitsF (widthF s c n) (l.getD n 0)
        · have E1 := Lib.hid (show sumAt s c l (n + 1) = sumAt s c l n + bitsF (widthF s c n) (l.getD n 0) from by simp only [sumAt, costAt, if_pos hnb])
          have E2 := Lib.hid (show okTo s c l (n + 1) = true from by simp only [okTo, okAt, if_pos hnb, hok, decide_eq_true hb0]; rfl)
          clear hok
          generalize l.getD n 0 = kn at *
          go_wp2_with (first | (go_at_call 53; refine (hbands.out _).mono ?_; rintro e w' ⟨rfl, hb1⟩; obtain ⟨x1, rfl⟩ := below_as_grew hb1; clear hb1; (try simp only [World.grew_bkd])) | (go_at_call 114; refine (hwid.out _ _).mono ?_; rintro e w' ⟨rfl, hb1⟩; obtain ⟨x1, rfl⟩ := below_as_grew hb1; clear hb1; (try simp only [World.grew_bkd])) | (go_at_call 38; refine (hbits.out _ _ _).mono ?_; rintro e w' ⟨rfl, y2, rfl⟩) | (go_at_call 86; refine (hright.out _).mono ?_; rintro e w' ⟨rfl, hb1⟩; obtain ⟨x1, rfl⟩ := below_as_grew hb1; clear hb1; (try simp only [World.grew_bkd])))
          go_roundw
          case rel => exact ⟨n + 1, by omega, by go_num, by rw [E1.out], E2.out, _, rfl⟩
          case measure => simp [intOf]; omega
        · have E := Lib.hid (show totalF s c l = -1 from by
            have := okTo_false (b := n) (s := s) (c := c) (l := l) hlt (by simp only [okAt, if_pos hnb, decide_eq_false hb0])
            unfold totalF
            rw [if_neg (by simp [this])])
          clear hok
          generalize l.getD n 0 = kn at *
          go_wp2_with (first | (go_at_call 53; refine (hbands.out _).mono ?_; rintro e w' ⟨rfl, hb1⟩; obtain ⟨x1, rfl⟩ := below_as_grew hb1; clear hb1; (try simp only [World.grew_bkd])) | (go_at_call 114; refine (hwid.out _ _).mono ?_; rintro e w' ⟨rfl, hb1⟩; obtain ⟨x1, rfl⟩ := below_as_grew hb1; clear hb1; (try simp only [World.grew_bkd])) | (go_at_call 38; refine (hbits.out _ _ _).mono ?_; rintro e w' ⟨rfl, y2, rfl⟩) | (go_at_call 86; refine (hright.out _).mono ?_; rintro e w' ⟨rfl, hb1⟩; obtain ⟨x1, rfl⟩ := below_as_grew hb1; clear hb1; (try simp only [World.grew_bkd])))
          go_ret
          exact ⟨ret_int E.out.symm, bkInv_as (hWi.bkd _)⟩
      · by_cases hk0 : l.getD n 0 = 0
        · have E1 := Lib.hid (show sumAt s c l (n + 1) = sumAt s c l n from by simp only [sumAt, costAt, if_neg hnb]; omega)
          have E2 := Lib.hid (show okTo s c l (n + 1) = true from by simp only [okTo, okAt, if_neg hnb, hok, decide_eq_true hk0]; rfl)
          rw [hk0] at hix
          clear hok hk0
          go_wp2_with (first | (go_at_call 53; refine (hbands.out _).mono ?_; rintro e w' ⟨rfl, hb1⟩; obtain ⟨x1, rfl⟩ := below_as_grew hb1; clear hb1; (try simp only [World.grew_bkd])) | (go_at_call 114; refine (hwid.out _ _).mono ?_; rintro e w' ⟨rfl, hb1⟩; obtain ⟨x1, rfl⟩ := below_as_grew hb1; clear hb1; (try simp only [World.grew_bkd])) | (go_at_call 38; refine (hbits.out _ _ _).mono ?_; rintro e w' ⟨rfl, y2, rfl⟩) | (go_at_call 86; refine (hright.out _).mono ?_; rintro e w' ⟨rfl, hb1⟩; obtain ⟨x1, rfl⟩ := below_as_grew hb1; clear hb1; (try simp only [World.grew_bkd])))
          go_roundw
          case rel => exact ⟨n + 1, by omega, by go_num, by rw [E1.out], E2.out, _, rfl⟩
          case measure => simp [intOf]; omega
        · have E := Lib.hid (show totalF s c l = -1 from by
            have := okTo_false (b := n) (s := s) (c := c) (l := l) hlt (by simp only [okAt, if_neg hnb, decide_eq_false hk0])
            unfold totalF
            rw [if_neg (by simp [this])])
          clear hok
          have hk0' : (l.getD n 0 == 0) = false := by rw [beq_eq_false_iff_ne]; exact hk0
          generalize l.getD n 0 = kn at *
          go_wp2_with (first | (go_at_call 53; refine (hbands.out _).mono ?_; rintro e w' ⟨rfl, hb1⟩; obtain ⟨x1, rfl⟩ := below_as_grew hb1; clear hb1; (try simp only [World.grew_bkd])) | (go_at_call 114; refine (hwid.out _ _).mono ?_; rintro e w' ⟨rfl, hb1⟩; obtain ⟨x1, rfl⟩ := below_as_grew hb1; clear hb1; (try simp only [World.grew_bkd])) | (go_at_call 38; refine (hbits.out _ _ _).mono ?_; rintro e w' ⟨rfl, y2, rfl⟩) | (go_at_call 86; refine (hright.out _).mono ?_; rintro e w' ⟨rfl, hb1⟩; obtain ⟨x1, rfl⟩ := below_as_grew hb1; clear hb1; (try simp only [World.grew_bkd])))
          go_ret
          exact ⟨ret_int E.out.symm, bkInv_as (hWi.bkd _)⟩
    · have hlt' : ¬(n : Int) < 5 := by omega
      have hn5 : n = 5 := by omega
      rw [hn5] at hok
      have sb := sumAt_bd s c l n
      by_cases hr : RightP s c
      · have E := Lib.hid (show totalF s c l = sumAt s c l n * c from by unfold totalF; rw [if_pos ⟨hr, hok⟩, hn5])
        have hright := Lib.hid (fun w => modeRight s c w)
        rw [decide_eq_true hr] at hright
        have hcc : c = 1 ∨ c = 2 := by have := hr.2.2; omega
        clear hok hr hn5
        rcases hcc with rfl | rfl
        all_goals
          go_wp2_with (first | (go_at_call 53; refine (hbands.out _).mono ?_; rintro e w' ⟨rfl, hb1⟩; obtain ⟨x1, rfl⟩ := below_as_grew hb1; clear hb1; (try simp only [World.grew_bkd])) | (go_at_call 114; refine (hwid.out _ _).mono ?_; rintro e w' ⟨rfl, hb1⟩; obtain ⟨x1, rfl⟩ := below_as_grew hb1; clear hb1; (try simp only [World.grew_bkd])) | (go_at_call 38; refine (hbits.out _ _ _).mono ?_; rintro e w' ⟨rfl, y2, rfl⟩) | (go_at_call 86; refine (hright.out _).mono ?_; rintro e w' ⟨rfl, hb1⟩; obtain ⟨x1, rfl⟩ := below_as_grew hb1; clear hb1; (try simp only [World.grew_bkd])))
          go_ret
          exact ⟨ret_int (by first | (rw [E.out]; done) | (rw [E.out]; omega)), bkInv_as (hWi.bkd _)⟩
      · have E := Lib.hid (show totalF s c l = -1 from by unfold totalF; rw [if_neg (fun h => hr h.1)])
        have hright := Lib.hid (fun w => modeRight s c w)
        rw [decide_eq_false hr] at hright
        clear hok hr hn5
        go_wp2_with (first | (go_at_call 53; refine (hbands.out _).mono ?_; rintro e w' ⟨rfl, hb1⟩; obtain ⟨x1, rfl⟩ := below_as_grew hb1; clear hb1; (try simp only [World.grew_bkd])) | (go_at_call 114; refine (hwid.out _ _).mono ?_; rintro e w' ⟨rfl, hb1⟩; obtain ⟨x1, rfl⟩ := below_as_grew hb1; clear hb1; (try simp only [World.grew_bkd])) | (go_at_call 38; refine (hbits.out _ _ _).mono ?_; rintro e w' ⟨rfl, y2, rfl⟩) | (go_at_call 86; refine (hright.out _).mono ?_; rintro e w' ⟨rfl, hb1⟩; obtain ⟨x1, rfl⟩ := below_as_grew hb1; clear hb1; (try simp only [World.grew_bkd])))
        go_ret
        exact ⟨ret_int E.out.symm, bkInv_as (hWi.bkd _)⟩
end Go.Proofs.YtcibajleknhklaaDoor
end

section
namespace Go.Proofs.YtcibajleknhklaaDoor
open Go.RowKit Go.BigFrame Go.Vec Go.Cost
set_option linter.unusedSimpArgs false
/-- Of the first n bands: the best one, and its level. -/
def bestTo (s c t : Int) (l : List Int) : Nat → Int × Int
  | 0 => (-1, 0)
  | n + 1 =>
    let p := bestTo s c t l n
    if capF (widthF s c n) ≤ l.getD n 0 then p
    else if p.1 < 0 ∨ (l.getD n 0 + 1) * slopeF s c t n < p.2 then ((n : Int), (l.getD n 0 + 1) * slopeF s c t n) else p
def bestF (s c t : Int) (l : List Int) : Int := (bestTo s c t l (bandsF s c).toNat).1
theorem level_bd (x y : Int) (hx : 0 ≤ x ∧ x ≤ 32) (hy : 0 ≤ y ∧ y ≤ 64) : 0 ≤ (x + 1) * y ∧ (x + 1) * y ≤ 2112 :=
  ⟨Int.mul_nonneg (by omega) hy.1, Int.le_trans (Int.mul_le_mul (show x + 1 ≤ 33 by omega) hy.2 hy.1 (by omega)) (by omega)⟩
theorem bestTo_bd (s c t : Int) (l : List Int) : ∀ n : Nat, -1 ≤ (bestTo s c t l n).1 ∧ (bestTo s c t l n).1 < n
  | 0 => by simp [bestTo]
  | n + 1 => by
    have h := bestTo_bd s c t l n
    simp only [bestTo]
    split
    · omega
    · split
      · simp only; omega
      · omega
theorem best_any (s c t : Int) (k0 k1 k2 k3 k4 : Int) (hk : ∀ n, n < 5 → 0 ≤ [k0, k1, k2, k3, k4].getD n 0 ∧ [k0, k1, k2, k3, k4].getD n 0 ≤ 32) (b m : Nat) (w : World) (hB : Book b m w) (hT : WidthW w) :
    Calls Tryd.prog 84 #[.pointer (some ⟨b, 0, none⟩), .agg #[.int .i64 s, .int .i64 c], .int .i64 t, .agg #[.int .i64 k0, .int .i64 k1, .int .i64 k2, .int .i64 k3, .int .i64 k4]] w fun e w' => e = .returned (.int .i64 (bestF s c t [k0, k1, k2, k3, k4])) ∧ Bk m w w' := by
  obtain ⟨l, hl⟩ : ∃ l, l = [k0, k1, k2, k3, k4] := ⟨_, rfl⟩
  obtain ⟨W, hW⟩ : ∃ W, W = (w.alloc (.cells #[.int .i64 s, .int .i64 c] 60)).alloc (.cells #[.int .i64 k0, .int .i64 k1, .int .i64 k2, .int .i64 k3, .int .i64 k4] 55) := ⟨_, rfl⟩
  have hx : ∀ n, n < 5 → W.cell? ⟨w.heap.size + 1, n, none⟩ = some (.int .i64 (l.getD n 0)) := fun n hn => by
    have : n = 0 ∨ n = 1 ∨ n = 2 ∨ n = 3 ∨ n = 4 := by omega
    subst hl hW
    rcases this with rfl | rfl | rfl | rfl | rfl <;> simp [go_sem]
  rw [← hl] at hk ⊢
  have hWi : BkInv m w W := by subst hW; exact (hB.refl.alloc _).alloc _
  have hBW := hB.inv hWi
  have hTW := hT.inv hB hWi
  obtain ⟨y0, hy0⟩ := bkInv_as hBW.refl
  have HX := Lib.hid hx
  have HK := Lib.hid hk
  have hbands := Lib.hid (fun y => modeBands s c (W.bkd m y))
  have hwid := Lib.hid (fun n y => modeWidth s c n (W.bkd m y) (hTW.inv hBW (hBW.refl.bkd y)))
  have hslo := Lib.hid (fun n y => slope_any s c t n (W.bkd m y) (hTW.inv hBW (hBW.refl.bkd y)))
  have hcap := Lib.hid (fun n => cap_any hBW n)
  have hml := hB.lt_m
  have c1 : W.cell? ⟨w.heap.size, 0, none⟩ = some (.int .i64 s) := by subst hW; simp [go_sem]
  have c2 : W.cell? ⟨w.heap.size, 1, none⟩ = some (.int .i64 c) := by subst hW; simp [go_sem]
  have d1 : w.heap.size < W.heap.size := by subst hW; simp; omega
  have d4 : w.heap.size + 1 < W.heap.size := by subst hW; simp
  have d2 : m ≠ w.heap.size := by omega
  have d5 : m ≠ w.heap.size + 1 := by omega
  have d3 : m < W.heap.size := by omega
  have hbd := bandsF_bd s c
  have hbN : bandsF s c = ((bandsF s c).toNat : Nat) := by omega
  have E := Lib.hid (show bestF s c t l = (bestTo s c t l (bandsF s c).toNat).1 from rfl)
  have hA := hy0
  rw [hW] at hA
  have HA := Lib.hid hA
  have HW := Lib.hid hW
  clear hl hx hW hA hy0 hk
  generalize bandsF s c = nb at *
  generalize nb.toNat = NB at *
  have hNB : NB ≤ 5 := by omega
  subst hbN
  go_enter Tryd.func84, Tryd.ntmps84
  go_wp2_with fail
  rw [HA.out]
  rw [← HW.out]
  refine ((hbands.out _).bkd_of_below).mono ?_
  rintro e w' ⟨rfl, y1, rfl⟩
  go_wp2_with fail
  go_loopw [9, 10, 15] (fun out least cnt wr => ∃ n : Nat, n ≤ NB ∧ cnt = .int .i64 n ∧ out = .int .i64 (bestTo s c t l n).1 ∧ least = .int .i64 (bestTo s c t l n).2 ∧ ∃ y, wr = W.bkd m y) (fun _ _ cnt _ => NB - (intOf cnt).toNat)
  case atStart => exact ⟨0, by omega, rfl, rfl, rfl, y1, rfl⟩
  case round =>
    obtain ⟨n, hn, rfl, rfl, rfl, y, rfl⟩ := hrel
    by_cases hlt : n < NB
    · have hlt' : (n : Int) < (NB : Int) := by omega
      have hx := HX.out n (by omega)
      have hk := HK.out n (by omega)
      have hp := bestTo_bd s c t l n
      have hn5 : (n : Int) < 5 := by omega
      by_cases hc : capF (widthF s c n) ≤ l.getD n 0
      · have E1 := Lib.hid (show bestTo s c t l (n + 1) = bestTo s c t l n from by simp only [bestTo, if_pos hc])
        generalize l.getD n 0 = kn at *
        go_wp2_with fail
        refine wp_region_bkd_all (by kernel_rfl) (by kernel_rfl) ?_
        repeat (go_big_quiet_step (first | (go_at_call 114; exact Calls.bkd_of_below (hwid.out _ _)) | (go_at_call 40; exact hcap.out _ _)))
        refine wpQuiet_nil ?_
        rintro _ ⟨x, rfl⟩
        go_wp2
        go_roundw
        case rel => exact ⟨n + 1, by omega, by go_num, by rw [E1.out], by rw [E1.out], _, rfl⟩
        case measure => simp [intOf]; omega
      · have hsl := slopeF_bd s c t n
        have hlev := level_bd _ _ hk hsl
        by_cases hb1 : (bestTo s c t l n).1 < 0
        · have E1 := Lib.hid (show bestTo s c t l (n + 1) = ((n : Int), (l.getD n 0 + 1) * slopeF s c t n) from by simp only [bestTo, if_neg hc, if_pos (Or.inl hb1)])
          generalize l.getD n 0 = kn at *
          go_wp2_with fail
          refine wp_region_bkd_all (by kernel_rfl) (by kernel_rfl) ?_
          repeat (go_big_quiet_step (first | (go_at_call 114; exact Calls.bkd_of_below (hwid.out _ _)) | (go_at_call 40; exact hcap.out _ _)))
          refine wpQuiet_nil ?_
          rintro _ ⟨x, rfl⟩
          go_wp2_with fail
          refine wp_region_bkd_all (by kernel_rfl) (by kernel_rfl) ?_
          repeat (go_big_quiet_step (first | (go_at_call 74; exact Calls.bkd_of_below (hslo.out _ _))))
          refine wpQuiet_nil ?_
          rintro _ ⟨x, rfl⟩
          go_wp2
          go_roundw
          case rel => exact ⟨n + 1, by omega, by go_num, by rw [E1.out], by rw [E1.out], _, rfl⟩
          case measure => simp [intOf]; omega
        · by_cases hb2 : (l.getD n 0 + 1) * slopeF s c t n < (bestTo s c t l n).2
          · have E1 := Lib.hid (show bestTo s c t l (n + 1) = ((n : Int), (l.getD n 0 + 1) * slopeF s c t n) from by simp only [bestTo, if_neg hc, if_pos (Or.inr hb2)])
            generalize l.getD n 0 = kn at *
            go_wp2_with fail
            refine wp_region_bkd_all (by kernel_rfl) (by kernel_rfl) ?_
            repeat (go_big_quiet_step (first | (go_at_call 114; exact Calls.bkd_of_below (hwid.out _ _)) | (go_at_call 40; exact hcap.out _ _)))
            refine wpQuiet_nil ?_
            rintro _ ⟨x, rfl⟩
            go_wp2_with fail
            refine wp_region_bkd_all (by kernel_rfl) (by kernel_rfl) ?_
            repeat (go_big_quiet_step (first | (go_at_call 74; exact Calls.bkd_of_below (hslo.out _ _))))
            refine wpQuiet_nil ?_
            rintro _ ⟨x, rfl⟩
            go_wp2
            go_roundw
            case rel => exact ⟨n + 1, by omega, by go_num, by rw [E1.out], by rw [E1.out], _, rfl⟩
            case measure => simp [intOf]; omega
          · have E1 := Lib.hid (show bestTo s c t l (n + 1) = bestTo s c t l n from by simp only [bestTo, if_neg hc, if_neg (not_or.2 ⟨hb1, hb2⟩)])
            generalize l.getD n 0 = kn at *
            go_wp2_with fail
            refine wp_region_bkd_all (by kernel_rfl) (by kernel_rfl) ?_
            repeat (go_big_quiet_step (first | (go_at_call 114; exact Calls.bkd_of_below (hwid.out _ _)) | (go_at_call 40; exact hcap.out _ _)))
            refine wpQuiet_nil ?_
            rintro _ ⟨x, rfl⟩
            go_wp2_with fail
            refine wp_region_bkd_all (by kernel_rfl) (by kernel_rfl) ?_
            repeat (go_big_quiet_step (first | (go_at_call 74; exact Calls.bkd_of_below (hslo.out _ _))))
            refine wpQuiet_nil ?_
            rintro _ ⟨x, rfl⟩
            go_wp2
            go_roundw
            case rel => exact ⟨n + 1, by omega, by go_num, by rw [E1.out], by rw [E1.out], _, rfl⟩
            case measure => simp [intOf]; omega
    · have hlt' : ¬(n : Int) < (NB : Int) := by omega
      have hn5 : n = NB := by omega
      rw [← hn5] at E
      clear hn5
      go_wp2
      go_ret
      exact ⟨ret_int E.out.symm, bkInv_as (hWi.bkd _)⟩
end Go.Proofs.YtcibajleknhklaaDoor
end

section
namespace Go.Proofs.YtcibajleknhklaaDoor
open Go.RowKit Go.BigFrame Go.Vec Go.Cost
set_option linter.unusedSimpArgs false
def allocGo (s c t bud : Int) : Nat → List Int → List Int
  | 0, l => l
  | f + 1, l => if bestF s c t l < 0 then l else if totalF s c (l.set (bestF s c t l).toNat (l.getD (bestF s c t l).toNat 0 + 1)) > bud then l else allocGo s c t bud f (l.set (bestF s c t l).toNat (l.getD (bestF s c t l).toNat 0 + 1))
def allocF (s c t bud : Int) : List Int := allocGo s c t bud 161 [0, 0, 0, 0, 0]
def aggOf (l : List Int) : Value := .agg (l.map fun x => Value.int .i64 x).toArray
theorem bestTo_cap (s c t : Int) (l : List Int) : ∀ n : Nat, 0 ≤ (bestTo s c t l n).1 → l.getD (bestTo s c t l n).1.toNat 0 < capF (widthF s c (bestTo s c t l n).1)
  | 0, h => by simp [bestTo] at h
  | n + 1, h => by
    have ih := bestTo_cap s c t l n
    simp only [bestTo] at h ⊢
    split
    · rename_i hc
      rw [if_pos hc] at h
      exact ih h
    · rename_i hc
      rw [if_neg hc] at h
      split
      · simp only [Int.toNat_natCast]
        omega
      · rename_i h2
        rw [if_neg h2] at h
        exact ih h
theorem bestF_facts (s c t : Int) (l : List Int) : bestF s c t l < 5 ∧ (0 ≤ bestF s c t l → l.getD (bestF s c t l).toNat 0 < 32) := by
  have h1 := bestTo_bd s c t l (bandsF s c).toNat
  have h2 := bestTo_cap s c t l (bandsF s c).toNat
  have h3 := bandsF_bd s c
  have h4 := capF_bd (widthF s c (bestTo s c t l (bandsF s c).toNat).1)
  unfold bestF
  exact ⟨by omega, fun h => by have := h2 h; omega⟩
set_option maxHeartbeats 2000000 in
set_option maxRecDepth 100000 in
theorem alloc_any (s c t bud : Int) (b m : Nat) (w : World) (hB : Book b m w) (hT : WidthW w) :
    Calls Tryd.prog 45 #[.pointer (some ⟨b, 0, none⟩), .agg #[.int .i64 s, .int .i64 c], .int .i64 t, .int .i64 bud] w fun e w' => e = .returned (aggOf (allocF s c t bud)) ∧ Bk m w w' := by
  have hml := hB.lt_m
  have d0 : m ≠ w.heap.size := by omega
  have d1 : m ≠ w.heap.size + 1 := by omega
  have d2 : m ≠ w.heap.size + 2 := by omega
  obtain ⟨A, hA⟩ : ∃ A, A = allocF s c t bud := ⟨_, rfl⟩
  rw [← hA]
  have HA := Lib.hid hA
  clear hA
  go_enter Tryd.func45, Tryd.ntmps45
  go_wp2_with fail
  go_loopw [10] (fun _ wr => ∃ l0 l1 l2 l3 l4 : Nat, l0 ≤ 32 ∧ l1 ≤ 32 ∧ l2 ≤ 32 ∧ l3 ≤ 32 ∧ l4 ≤ 32 ∧ allocGo s c t bud (161 - (l0 + l1 + l2 + l3 + l4)) [(l0 : Int), l1, l2, l3, l4] = A ∧ ∃ y, wr = (((w.alloc (.cells #[.int .i64 s, .int .i64 c] 60)).alloc (.cells #[.int .i64 0, .int .i64 0, .int .i64 0, .int .i64 0, .int .i64 0] 55)).alloc (.cells #[.int .i64 l0, .int .i64 l1, .int .i64 l2, .int .i64 l3, .int .i64 l4] 55)).bkd m y)
    (fun _ wr => 160 - ((intOf ((wr.cell? ⟨w.heap.size + 2, 0, none⟩).getD (.bool false))).toNat + (intOf ((wr.cell? ⟨w.heap.size + 2, 1, none⟩).getD (.bool false))).toNat + (intOf ((wr.cell? ⟨w.heap.size + 2, 2, none⟩).getD (.bool false))).toNat + (intOf ((wr.cell? ⟨w.heap.size + 2, 3, none⟩).getD (.bool false))).toNat + (intOf ((wr.cell? ⟨w.heap.size + 2, 4, none⟩).getD (.bool false))).toNat))
  case atStart =>
    have hi : Book b m (((w.alloc (.cells #[.int .i64 s, .int .i64 c] 60)).alloc (.cells #[.int .i64 0, .int .i64 0, .int .i64 0, .int .i64 0, .int .i64 0] 55)).alloc (.cells #[.int .i64 0, .int .i64 0, .int .i64 0, .int .i64 0, .int .i64 0] 55)) := hB.inv (((hB.refl.alloc _).alloc _).alloc _)
    obtain ⟨y0, hy0⟩ := bkInv_as hi.refl
    exact ⟨0, 0, 0, 0, 0, by omega, by omega, by omega, by omega, by omega, HA.out.symm, y0, hy0⟩
  case round =>
    obtain ⟨l0, l1, l2, l3, l4, b0, b1, b2, b3, b4, hgo, y, rfl⟩ := hrel
    have hW : BkInv m w ((((w.alloc (.cells #[.int .i64 s, .int .i64 c] 60)).alloc (.cells #[.int .i64 0, .int .i64 0, .int .i64 0, .int .i64 0, .int .i64 0] 55)).alloc (.cells #[.int .i64 l0, .int .i64 l1, .int .i64 l2, .int .i64 l3, .int .i64 l4] 55)).bkd m y) := (((hB.refl.alloc _).alloc _).alloc _).bkd y
    have hbest := Lib.hid (best_any s c t l0 l1 l2 l3 l4 (fun n hn => by
      have : n = 0 ∨ n = 1 ∨ n = 2 ∨ n = 3 ∨ n = 4 := by omega
      rcases this with rfl | rfl | rfl | rfl | rfl <;> simp <;> omega) b m _ (hB.inv hW) (hT.inv hB hW))
    obtain ⟨f1, f2⟩ := bestF_facts s c t [(l0 : Int), l1, l2, l3, l4]
    have F2 := Lib.hid f2
    have HG := Lib.hid hgo
    clear f2 hgo hW
    by_cases hneg : bestF s c t [(l0 : Int), l1, l2, l3, l4] < 0
    · have E := Lib.hid (show A = [(l0 : Int), l1, l2, l3, l4] from by
        rw [← HG.out, show 161 - (l0 + l1 + l2 + l3 + l4) = (160 - (l0 + l1 + l2 + l3 + l4)) + 1 by omega]
        simp only [allocGo]
        rw [if_pos hneg])
      generalize bestF s c t [(l0 : Int), l1, l2, l3, l4] = bf at *
      go_wp2_with fail
      refine hbest.out.mono ?_
      rintro e w' ⟨rfl, y1, rfl⟩
      go_wp2_with fail
      refine bodyPost_ret (v := _) (by simp [results, Tryd.results45, go_sem, d1]; rfl) rfl ⟨?_, ?_⟩
      · rw [E.out]; rfl
      · exact bkInv_as (by (repeat' (first | (with_reducible assumption) | (with_reducible exact BookOK.refl ‹_›) | (with_reducible refine BkInv.alloc ?_ _) | (with_reducible refine BkInv.grew ?_ _) | (with_reducible refine BkInv.bkd ?_ _) | (with_reducible refine BkInv.setCell ?_ ?_ _) | (with_reducible refine BkInv.drew ?_) | (with_reducible refine BkInv.drewN ?_ _) | omega | (simp; done) | (simp; omega))))
    · have hf := F2.out (by omega)
      have hbf : bestF s c t [(l0 : Int), l1, l2, l3, l4] = 0 ∨ bestF s c t [(l0 : Int), l1, l2, l3, l4] = 1 ∨ bestF s c t [(l0 : Int), l1, l2, l3, l4] = 2 ∨ bestF s c t [(l0 : Int), l1, l2, l3, l4] = 3 ∨ bestF s c t [(l0 : Int), l1, l2, l3, l4] = 4 := by omega
      rcases hbf with hbf | hbf | hbf | hbf | hbf
      · have E := Lib.hid (show allocGo s c t bud ((160 - (l0 + l1 + l2 + l3 + l4)) + 1) [(l0 : Int), l1, l2, l3, l4] = A from by rw [show (160 - (l0 + l1 + l2 + l3 + l4)) + 1 = 161 - (l0 + l1 + l2 + l3 + l4) by omega]; exact HG.out)
        simp only [allocGo, if_neg hneg] at E
        rw [hbf] at E hf hbest
        simp only [show (2 : Int).toNat = 2 from rfl, show (3 : Int).toNat = 3 from rfl, show (4 : Int).toNat = 4 from rfl, Int.toNat_zero, Int.toNat_one, List.set_cons_zero, List.set_cons_succ, List.getD_cons_zero, List.getD_cons_succ] at E hf
        clear hbf hneg f1
        go_wp2_with fail
        refine hbest.out.mono ?_
        rintro e w' ⟨rfl, y1, rfl⟩
        go_wp2_with fail
        refine (total_any s c _ _ _ _ _ b m _ (hB.inv ?_) (hT.inv hB ?_)).mono ?_
        · (repeat' (first | (with_reducible assumption) | (with_reducible exact BookOK.refl ‹_›) | (with_reducible refine BkInv.alloc ?_ _) | (with_reducible refine BkInv.grew ?_ _) | (with_reducible refine BkInv.bkd ?_ _) | (with_reducible refine BkInv.setCell ?_ ?_ _) | (with_reducible refine BkInv.drew ?_) | (with_reducible refine BkInv.drewN ?_ _) | omega | (simp; done) | (simp; omega)))
        · (repeat' (first | (with_reducible assumption) | (with_reducible exact BookOK.refl ‹_›) | (with_reducible refine BkInv.alloc ?_ _) | (with_reducible refine BkInv.grew ?_ _) | (with_reducible refine BkInv.bkd ?_ _) | (with_reducible refine BkInv.setCell ?_ ?_ _) | (with_reducible refine BkInv.drew ?_) | (with_reducible refine BkInv.drewN ?_ _) | omega | (simp; done) | (simp; omega)))
        rintro e w' ⟨rfl, y2, rfl⟩
        by_cases hov : bud < totalF s c [(l0 : Int) + 1, (l1 : Int), (l2 : Int), (l3 : Int), (l4 : Int)]
        · have E2 := Lib.hid ((if_pos hov).symm.trans E.out)
          generalize totalF s c [(l0 : Int) + 1, (l1 : Int), (l2 : Int), (l3 : Int), (l4 : Int)] = T at *
          go_wp2_with fail
          refine bodyPost_ret (v := _) (by simp [results, Tryd.results45, go_sem, d1]; rfl) rfl ⟨?_, ?_⟩
          · rw [← E2.out]; rfl
          · exact bkInv_as (by (repeat' (first | (with_reducible assumption) | (with_reducible exact BookOK.refl ‹_›) | (with_reducible refine BkInv.alloc ?_ _) | (with_reducible refine BkInv.grew ?_ _) | (with_reducible refine BkInv.bkd ?_ _) | (with_reducible refine BkInv.setCell ?_ ?_ _) | (with_reducible refine BkInv.drew ?_) | (with_reducible refine BkInv.drewN ?_ _) | omega | (simp; done) | (simp; omega))))
        · have E2 := Lib.hid ((if_neg hov).symm.trans E.out)
          generalize totalF s c [(l0 : Int) + 1, (l1 : Int), (l2 : Int), (l3 : Int), (l4 : Int)] = T at *
          go_wp2_with fail
          go_roundw
          case rel =>
            have hWl := hB.inv (((hB.refl.alloc (.cells #[.int .i64 s, .int .i64 c] 60)).alloc (.cells #[.int .i64 0, .int .i64 0, .int .i64 0, .int .i64 0, .int .i64 0] 55)).alloc (.cells #[.int .i64 ((l0 : Int) + 1), .int .i64 (l1 : Int), .int .i64 (l2 : Int), .int .i64 (l3 : Int), .int .i64 (l4 : Int)] 55))
            refine ⟨l0 + 1, l1, l2, l3, l4, by omega, by omega, by omega, by omega, by omega, ?_, ?_⟩
            · rw [show 161 - ((l0 + 1) + l1 + l2 + l3 + l4) = 160 - (l0 + l1 + l2 + l3 + l4) by omega]
              push_cast
              exact E2.out
            · push_cast
              exact bkInv_as (by (repeat' (first | (with_reducible assumption) | (with_reducible exact BookOK.refl ‹_›) | (with_reducible refine BkInv.alloc ?_ _) | (with_reducible refine BkInv.grew ?_ _) | (with_reducible refine BkInv.bkd ?_ _) | (with_reducible refine BkInv.setCell ?_ ?_ _) | (with_reducible refine BkInv.drew ?_) | (with_reducible refine BkInv.drewN ?_ _) | omega | (simp; done) | (simp; omega))))
          case measure =>
            simp [go_sem, d2, intOf]
            omega
      · have E := Lib.hid (show allocGo s c t bud ((160 - (l0 + l1 + l2 + l3 + l4)) + 1) [(l0 : Int), l1, l2, l3, l4] = A from by rw [show (160 - (l0 + l1 + l2 + l3 + l4)) + 1 = 161 - (l0 + l1 + l2 + l3 + l4) by omega]; exact HG.out)
        simp only [allocGo, if_neg hneg] at E
        rw [hbf] at E hf hbest
        simp only [show (2 : Int).toNat = 2 from rfl, show (3 : Int).toNat = 3 from rfl, show (4 : Int).toNat = 4 from rfl, Int.toNat_zero, Int.toNat_one, List.set_cons_zero, List.set_cons_succ, List.getD_cons_zero, List.getD_cons_succ] at E hf
        clear hbf hneg f1
        go_wp2_with fail
        refine hbest.out.mono ?_
        rintro e w' ⟨rfl, y1, rfl⟩
        go_wp2_with fail
        refine (total_any s c _ _ _ _ _ b m _ (hB.inv ?_) (hT.inv hB ?_)).mono ?_
        · (repeat' (first | (with_reducible assumption) | (with_reducible exact BookOK.refl ‹_›) | (with_reducible refine BkInv.alloc ?_ _) | (with_reducible refine BkInv.grew ?_ _) | (with_reducible refine BkInv.bkd ?_ _) | (with_reducible refine BkInv.setCell ?_ ?_ _) | (with_reducible refine BkInv.drew ?_) | (with_reducible refine BkInv.drewN ?_ _) | omega | (simp; done) | (simp; omega)))
        · (repeat' (first | (with_reducible assumption) | (with_reducible exact BookOK.refl ‹_›) | (with_reducible refine BkInv.alloc ?_ _) | (with_reducible refine BkInv.grew ?_ _) | (with_reducible refine BkInv.bkd ?_ _) | (with_reducible refine BkInv.setCell ?_ ?_ _) | (with_reducible refine BkInv.drew ?_) | (with_reducible refine BkInv.drewN ?_ _) | omega | (simp; done) | (simp; omega)))
        rintro e w' ⟨rfl, y2, rfl⟩
        by_cases hov : bud < totalF s c [(l0 : Int), (l1 : Int) + 1, (l2 : Int), (l3 : Int), (l4 : Int)]
        · have E2 := Lib.hid ((if_pos hov).symm.trans E.out)
          generalize totalF s c [(l0 : Int), (l1 : Int) + 1, (l2 : Int), (l3 : Int), (l4 : Int)] = T at *
          go_wp2_with fail
          refine bodyPost_ret (v := _) (by simp [results, Tryd.results45, go_sem, d1]; rfl) rfl ⟨?_, ?_⟩
          · rw [← E2.out]; rfl
          · exact bkInv_as (by (repeat' (first | (with_reducible assumption) | (with_reducible exact BookOK.refl ‹_›) | (with_reducible refine BkInv.alloc ?_ _) | (with_reducible refine BkInv.grew ?_ _) | (with_reducible refine BkInv.bkd ?_ _) | (with_reducible refine BkInv.setCell ?_ ?_ _) | (with_reducible refine BkInv.drew ?_) | (with_reducible refine BkInv.drewN ?_ _) | omega | (simp; done) | (simp; omega))))
        · have E2 := Lib.hid ((if_neg hov).symm.trans E.out)
          generalize totalF s c [(l0 : Int), (l1 : Int) + 1, (l2 : Int), (l3 : Int), (l4 : Int)] = T at *
          go_wp2_with fail
          go_roundw
          case rel =>
            have hWl := hB.inv (((hB.refl.alloc (.cells #[.int .i64 s, .int .i64 c] 60)).alloc (.cells #[.int .i64 0, .int .i64 0, .int .i64 0, .int .i64 0, .int .i64 0] 55)).alloc (.cells #[.int .i64 (l0 : Int), .int .i64 ((l1 : Int) + 1), .int .i64 (l2 : Int), .int .i64 (l3 : Int), .int .i64 (l4 : Int)] 55))
            refine ⟨l0, l1 + 1, l2, l3, l4, by omega, by omega, by omega, by omega, by omega, ?_, ?_⟩
            · rw [show 161 - (l0 + (l1 + 1) + l2 + l3 + l4) = 160 - (l0 + l1 + l2 + l3 + l4) by omega]
              push_cast
              exact E2.out
            · push_cast
              exact bkInv_as (by (repeat' (first | (with_reducible assumption) | (with_reducible exact BookOK.refl ‹_›) | (with_reducible refine BkInv.alloc ?_ _) | (with_reducible refine BkInv.grew ?_ _) | (with_reducible refine BkInv.bkd ?_ _) | (with_reducible refine BkInv.setCell ?_ ?_ _) | (with_reducible refine BkInv.drew ?_) | (with_reducible refine BkInv.drewN ?_ _) | omega | (simp; done) | (simp; omega))))
          case measure =>
            simp [go_sem, d2, intOf]
            omega
      · have E := Lib.hid (show allocGo s c t bud ((160 - (l0 + l1 + l2 + l3 + l4)) + 1) [(l0 : Int), l1, l2, l3, l4] = A from by rw [show (160 - (l0 + l1 + l2 + l3 + l4)) + 1 = 161 - (l0 + l1 + l2 + l3 + l4) by omega]; exact HG.out)
        simp only [allocGo, if_neg hneg] at E
        rw [hbf] at E hf hbest
        simp only [show (2 : Int).toNat = 2 from rfl, show (3 : Int).toNat = 3 from rfl, show (4 : Int).toNat = 4 from rfl, Int.toNat_zero, Int.toNat_one, List.set_cons_zero, List.set_cons_succ, List.getD_cons_zero, List.getD_cons_succ] at E hf
        clear hbf hneg f1
        go_wp2_with fail
        refine hbest.out.mono ?_
        rintro e w' ⟨rfl, y1, rfl⟩
        go_wp2_with fail
        refine (total_any s c _ _ _ _ _ b m _ (hB.inv ?_) (hT.inv hB ?_)).mono ?_
        · (repeat' (first | (with_reducible assumption) | (with_reducible exact BookOK.refl ‹_›) | (with_reducible refine BkInv.alloc ?_ _) | (with_reducible refine BkInv.grew ?_ _) | (with_reducible refine BkInv.bkd ?_ _) | (with_reducible refine BkInv.setCell ?_ ?_ _) | (with_reducible refine BkInv.drew ?_) | (with_reducible refine BkInv.drewN ?_ _) | omega | (simp; done) | (simp; omega)))
        · (repeat' (first | (with_reducible assumption) | (with_reducible exact BookOK.refl ‹_›) | (with_reducible refine BkInv.alloc ?_ _) | (with_reducible refine BkInv.grew ?_ _) | (with_reducible refine BkInv.bkd ?_ _) | (with_reducible refine BkInv.setCell ?_ ?_ _) | (with_reducible refine BkInv.drew ?_) | (with_reducible refine BkInv.drewN ?_ _) | omega | (simp; done) | (simp; omega)))
        rintro e w' ⟨rfl, y2, rfl⟩
        by_cases hov : bud < totalF s c [(l0 : Int), (l1 : Int), (l2 : Int) + 1, (l3 : Int), (l4 : Int)]
        · have E2 := Lib.hid ((if_pos hov).symm.trans E.out)
          generalize totalF s c [(l0 : Int), (l1 : Int), (l2 : Int) + 1, (l3 : Int), (l4 : Int)] = T at *
          go_wp2_with fail
          refine bodyPost_ret (v := _) (by simp [results, Tryd.results45, go_sem, d1]; rfl) rfl ⟨?_, ?_⟩
          · rw [← E2.out]; rfl
          · exact bkInv_as (by (repeat' (first | (with_reducible assumption) | (with_reducible exact BookOK.refl ‹_›) | (with_reducible refine BkInv.alloc ?_ _) | (with_reducible refine BkInv.grew ?_ _) | (with_reducible refine BkInv.bkd ?_ _) | (with_reducible refine BkInv.setCell ?_ ?_ _) | (with_reducible refine BkInv.drew ?_) | (with_reducible refine BkInv.drewN ?_ _) | omega | (simp; done) | (simp; omega))))
        · have E2 := Lib.hid ((if_neg hov).symm.trans E.out)
          generalize totalF s c [(l0 : Int), (l1 : Int), (l2 : Int) + 1, (l3 : Int), (l4 : Int)] = T at *
          go_wp2_with fail
          go_roundw
          case rel =>
            have hWl := hB.inv (((hB.refl.alloc (.cells #[.int .i64 s, .int .i64 c] 60)).alloc (.cells #[.int .i64 0, .int .i64 0, .int .i64 0, .int .i64 0, .int .i64 0] 55)).alloc (.cells #[.int .i64 (l0 : Int), .int .i64 (l1 : Int), .int .i64 ((l2 : Int) + 1), .int .i64 (l3 : Int), .int .i64 (l4 : Int)] 55))
            refine ⟨l0, l1, l2 + 1, l3, l4, by omega, by omega, by omega, by omega, by omega, ?_, ?_⟩
            · rw [show 161 - (l0 + l1 + (l2 + 1) + l3 + l4) = 160 - (l0 + l1 + l2 + l3 + l4) by omega]
              push_cast
              exact E2.out
            · push_cast
              exact bkInv_as (by (repeat' (first | (with_reducible assumption) | (with_reducible exact BookOK.refl ‹_›) | (with_reducible refine BkInv.alloc ?_ _) | (with_reducible refine BkInv.grew ?_ _) | (with_reducible refine BkInv.bkd ?_ _) | (with_reducible refine BkInv.setCell ?_ ?_ _) | (with_reducible refine BkInv.drew ?_) | (with_reducible refine BkInv.drewN ?_ _) | omega | (simp; done) | (simp; omega))))
          case measure =>
            simp [go_sem, d2, intOf]
            omega
      · have E := Lib.hid (show allocGo s c t bud ((160 - (l0 + l1 + l2 + l3 + l4)) + 1) [(l0 : Int), l1, l2, l3, l4] = A from by rw [show (160 - (l0 + l1 + l2 + l3 + l4)) + 1 = 161 - (l0 + l1 + l2 + l3 + l4) by omega]; exact HG.out)
        simp only [allocGo, if_neg hneg] at E
        rw [hbf] at E hf hbest
        simp only [show (2 : Int).toNat = 2 from rfl, show (3 : Int).toNat = 3 from rfl, show (4 : Int).toNat = 4 from rfl, Int.toNat_zero, Int.toNat_one, List.set_cons_zero, List.set_cons_succ, List.getD_cons_zero, List.getD_cons_succ] at E hf
        clear hbf hneg f1
        go_wp2_with fail
        refine hbest.out.mono ?_
        rintro e w' ⟨rfl, y1, rfl⟩
        go_wp2_with fail
        refine (total_any s c _ _ _ _ _ b m _ (hB.inv ?_) (hT.inv hB ?_)).mono ?_
        · (repeat' (first | (with_reducible assumption) | (with_reducible exact BookOK.refl ‹_›) | (with_reducible refine BkInv.alloc ?_ _) | (with_reducible refine BkInv.grew ?_ _) | (with_reducible refine BkInv.bkd ?_ _) | (with_reducible refine BkInv.setCell ?_ ?_ _) | (with_reducible refine BkInv.drew ?_) | (with_reducible refine BkInv.drewN ?_ _) | omega | (simp; done) | (simp; omega)))
        · (repeat' (first | (with_reducible assumption) | (with_reducible exact BookOK.refl ‹_›) | (with_reducible refine BkInv.alloc ?_ _) | (with_reducible refine BkInv.grew ?_ _) | (with_reducible refine BkInv.bkd ?_ _) | (with_reducible refine BkInv.setCell ?_ ?_ _) | (with_reducible refine BkInv.drew ?_) | (with_reducible refine BkInv.drewN ?_ _) | omega | (simp; done) | (simp; omega)))
        rintro e w' ⟨rfl, y2, rfl⟩
        by_cases hov : bud < totalF s c [(l0 : Int), (l1 : Int), (l2 : Int), (l3 : Int) + 1, (l4 : Int)]
        · have E2 := Lib.hid ((if_pos hov).symm.trans E.out)
          generalize totalF s c [(l0 : Int), (l1 : Int), (l2 : Int), (l3 : Int) + 1, (l4 : Int)] = T at *
          go_wp2_with fail
          refine bodyPost_ret (v := _) (by simp [results, Tryd.results45, go_sem, d1]; rfl) rfl ⟨?_, ?_⟩
          · rw [← E2.out]; rfl
          · exact bkInv_as (by (repeat' (first | (with_reducible assumption) | (with_reducible exact BookOK.refl ‹_›) | (with_reducible refine BkInv.alloc ?_ _) | (with_reducible refine BkInv.grew ?_ _) | (with_reducible refine BkInv.bkd ?_ _) | (with_reducible refine BkInv.setCell ?_ ?_ _) | (with_reducible refine BkInv.drew ?_) | (with_reducible refine BkInv.drewN ?_ _) | omega | (simp; done) | (simp; omega))))
        · have E2 := Lib.hid ((if_neg hov).symm.trans E.out)
          generalize totalF s c [(l0 : Int), (l1 : Int), (l2 : Int), (l3 : Int) + 1, (l4 : Int)] = T at *
          go_wp2_with fail
          go_roundw
          case rel =>
            have hWl := hB.inv (((hB.refl.alloc (.cells #[.int .i64 s, .int .i64 c] 60)).alloc (.cells #[.int .i64 0, .int .i64 0, .int .i64 0, .int .i64 0, .int .i64 0] 55)).alloc (.cells #[.int .i64 (l0 : Int), .int .i64 (l1 : Int), .int .i64 (l2 : Int), .int .i64 ((l3 : Int) + 1), .int .i64 (l4 : Int)] 55))
            refine ⟨l0, l1, l2, l3 + 1, l4, by omega, by omega, by omega, by omega, by omega, ?_, ?_⟩
            · rw [show 161 - (l0 + l1 + l2 + (l3 + 1) + l4) = 160 - (l0 + l1 + l2 + l3 + l4) by omega]
              push_cast
              exact E2.out
            · push_cast
              exact bkInv_as (by (repeat' (first | (with_reducible assumption) | (with_reducible exact BookOK.refl ‹_›) | (with_reducible refine BkInv.alloc ?_ _) | (with_reducible refine BkInv.grew ?_ _) | (with_reducible refine BkInv.bkd ?_ _) | (with_reducible refine BkInv.setCell ?_ ?_ _) | (with_reducible refine BkInv.drew ?_) | (with_reducible refine BkInv.drewN ?_ _) | omega | (simp; done) | (simp; omega))))
          case measure =>
            simp [go_sem, d2, intOf]
            omega
      · have E := Lib.hid (show allocGo s c t bud ((160 - (l0 + l1 + l2 + l3 + l4)) + 1) [(l0 : Int), l1, l2, l3, l4] = A from by rw [show (160 - (l0 + l1 + l2 + l3 + l4)) + 1 = 161 - (l0 + l1 + l2 + l3 + l4) by omega]; exact HG.out)
        simp only [allocGo, if_neg hneg] at E
        rw [hbf] at E hf hbest
        simp only [show (2 : Int).toNat = 2 from rfl, show (3 : Int).toNat = 3 from rfl, show (4 : Int).toNat = 4 from rfl, Int.toNat_zero, Int.toNat_one, List.set_cons_zero, List.set_cons_succ, List.getD_cons_zero, List.getD_cons_succ] at E hf
        clear hbf hneg f1
        go_wp2_with fail
        refine hbest.out.mono ?_
        rintro e w' ⟨rfl, y1, rfl⟩
        go_wp2_with fail
        refine (total_any s c _ _ _ _ _ b m _ (hB.inv ?_) (hT.inv hB ?_)).mono ?_
        · (repeat' (first | (with_reducible assumption) | (with_reducible exact BookOK.refl ‹_›) | (with_reducible refine BkInv.alloc ?_ _) | (with_reducible refine BkInv.grew ?_ _) | (with_reducible refine BkInv.bkd ?_ _) | (with_reducible refine BkInv.setCell ?_ ?_ _) | (with_reducible refine BkInv.drew ?_) | (with_reducible refine BkInv.drewN ?_ _) | omega | (simp; done) | (simp; omega)))
        · (repeat' (first | (with_reducible assumption) | (with_reducible exact BookOK.refl ‹_›) | (with_reducible refine BkInv.alloc ?_ _) | (with_reducible refine BkInv.grew ?_ _) | (with_reducible refine BkInv.bkd ?_ _) | (with_reducible refine BkInv.setCell ?_ ?_ _) | (with_reducible refine BkInv.drew ?_) | (with_reducible refine BkInv.drewN ?_ _) | omega | (simp; done) | (simp; omega)))
        rintro e w' ⟨rfl, y2, rfl⟩
        by_cases hov : bud < totalF s c [(l0 : Int), (l1 : Int), (l2 : Int), (l3 : Int), (l4 : Int) + 1]
        · have E2 := Lib.hid ((if_pos hov).symm.trans E.out)
          generalize totalF s c [(l0 : Int), (l1 : Int), (l2 : Int), (l3 : Int), (l4 : Int) + 1] = T at *
          go_wp2_with fail
          refine bodyPost_ret (v := _) (by simp [results, Tryd.results45, go_sem, d1]; rfl) rfl ⟨?_, ?_⟩
          · rw [← E2.out]; rfl
          · exact bkInv_as (by (repeat' (first | (with_reducible assumption) | (with_reducible exact BookOK.refl ‹_›) | (with_reducible refine BkInv.alloc ?_ _) | (with_reducible refine BkInv.grew ?_ _) | (with_reducible refine BkInv.bkd ?_ _) | (with_reducible refine BkInv.setCell ?_ ?_ _) | (with_reducible refine BkInv.drew ?_) | (with_reducible refine BkInv.drewN ?_ _) | omega | (simp; done) | (simp; omega))))
        · have E2 := Lib.hid ((if_neg hov).symm.trans E.out)
          generalize totalF s c [(l0 : Int), (l1 : Int), (l2 : Int), (l3 : Int), (l4 : Int) + 1] = T at *
          go_wp2_with fail
          go_roundw
          case rel =>
            have hWl := hB.inv (((hB.refl.alloc (.cells #[.int .i64 s, .int .i64 c] 60)).alloc (.cells #[.int .i64 0, .int .i64 0, .int .i64 0, .int .i64 0, .int .i64 0] 55)).alloc (.cells #[.int .i64 (l0 : Int), .int .i64 (l1 : Int), .int .i64 (l2 : Int), .int .i64 (l3 : Int), .int .i64 ((l4 : Int) + 1)] 55))
            refine ⟨l0, l1, l2, l3, l4 + 1, by omega, by omega, by omega, by omega, by omega, ?_, ?_⟩
            · rw [show 161 - (l0 + l1 + l2 + l3 + (l4 + 1)) = 160 - (l0 + l1 + l2 + l3 + l4) by omega]
              push_cast
              exact E2.out
            · push_cast
              exact bkInv_as (by (repeat' (first | (with_reducible assumption) | (with_reducible exact BookOK.refl ‹_›) | (with_reducible refine BkInv.alloc ?_ _) | (with_reducible refine BkInv.grew ?_ _) | (with_reducible refine BkInv.bkd ?_ _) | (with_reducible refine BkInv.setCell ?_ ?_ _) | (with_reducible refine BkInv.drew ?_) | (with_reducible refine BkInv.drewN ?_ _) | omega | (simp; done) | (simp; omega))))
          case measure =>
            simp [go_sem, d2, intOf]
            omega
end Go.Proofs.YtcibajleknhklaaDoor
end

section
namespace Go.Proofs.YtcibajleknhklaaDoor
open Go.Vec Go.Cost
/-- Each band has at most what it may have; what is no band has none. -/
def FitL (s c : Int) (l : List Int) : Prop := l.length = 5 ∧ ∀ i : Nat, i < 5 → 0 ≤ l.getD i 0 ∧ (if (i : Int) < bandsF s c then l.getD i 0 ≤ capF (widthF s c i) else l.getD i 0 = 0)
def sum5 (l : List Int) : Int := l.getD 0 0 + l.getD 1 0 + l.getD 2 0 + l.getD 3 0 + l.getD 4 0
theorem bitsF_pos (n k : Int) (h0 : 0 ≤ k) (h : k ≤ capF n) : 0 ≤ bitsF n k := by
  unfold bitsF
  rw [if_pos ⟨h0, h⟩]
  omega
theorem fit_ok {s c : Int} {l : List Int} (h : FitL s c l) (i : Nat) (hi : i < 5) : okAt s c l i = true ∧ 0 ≤ costAt s c l i := by
  obtain ⟨h0, h1⟩ := h.2 i hi
  unfold okAt costAt
  split
  · rename_i hb
    rw [if_pos hb] at h1
    have := bitsF_pos _ _ h0 h1
    exact ⟨by simpa using this, this⟩
  · rename_i hb
    rw [if_neg hb] at h1
    exact ⟨by simpa using h1, by omega⟩
theorem fit_total {s c : Int} {l : List Int} (hR : RightP s c) (h : FitL s c l) : 0 ≤ totalF s c l := by
  have o : okTo s c l 5 = true := by
    simp only [okTo, (fit_ok h 0 (by omega)).1, (fit_ok h 1 (by omega)).1, (fit_ok h 2 (by omega)).1, (fit_ok h 3 (by omega)).1, (fit_ok h 4 (by omega)).1, Bool.and_true]
  have a0 := (fit_ok h 0 (by omega)).2
  have a1 := (fit_ok h 1 (by omega)).2
  have a2 := (fit_ok h 2 (by omega)).2
  have a3 := (fit_ok h 3 (by omega)).2
  have a4 := (fit_ok h 4 (by omega)).2
  unfold totalF
  rw [if_pos ⟨hR, o⟩]
  refine Int.mul_nonneg ?_ (by unfold RightP at hR; omega)
  simp only [sumAt]
  omega
theorem bestF_lt (s c t : Int) (l : List Int) : bestF s c t l < bandsF s c := by
  have h1 := bestTo_bd s c t l (bandsF s c).toNat
  have h3 := bandsF_bd s c
  unfold bestF
  by_cases hz : bandsF s c = 0
  · rw [hz] at h1 ⊢
    simp [bestTo]
  · omega
theorem bestF_cap (s c t : Int) (l : List Int) (h : 0 ≤ bestF s c t l) : l.getD (bestF s c t l).toNat 0 < capF (widthF s c (bestF s c t l)) := bestTo_cap s c t l _ h
theorem set5 {l : List Int} (hl : l.length = 5) (b : Nat) (hb : b < 5) (x : Int) (i : Nat) (hi : i < 5) : (l.set b x).getD i 0 = if i = b then x else l.getD i 0 := by
  simp only [List.getD_eq_getElem?_getD, List.getElem?_set]
  by_cases e : b = i
  · subst e; simp [hl, hb]
  · rw [if_neg e, if_neg (fun h => e h.symm)]
theorem fit_step {s c t : Int} {l : List Int} (h : FitL s c l) (hb : 0 ≤ bestF s c t l) :
    FitL s c (l.set (bestF s c t l).toNat (l.getD (bestF s c t l).toNat 0 + 1)) ∧ sum5 (l.set (bestF s c t l).toNat (l.getD (bestF s c t l).toNat 0 + 1)) = sum5 l + 1 := by
  have hlt := bestF_lt s c t l
  have hcap := bestF_cap s c t l hb
  have hbd := bandsF_bd s c
  obtain ⟨B, hB⟩ := Int.eq_ofNat_of_zero_le hb
  rw [hB] at hlt hcap ⊢
  simp only [Int.toNat_natCast] at hcap ⊢
  have hB5 : B < 5 := by omega
  refine ⟨⟨by simpa using h.1, fun i hi => ?_⟩, ?_⟩
  · rw [set5 h.1 B hB5 _ i hi]
    obtain ⟨h0, h1⟩ := h.2 i hi
    by_cases e : i = B
    · subst e
      rw [if_pos rfl, if_pos hlt]
      exact ⟨by omega, by omega⟩
    · rw [if_neg e]
      exact ⟨h0, h1⟩
  · unfold sum5
    rw [set5 h.1 B hB5 _ 0 (by omega), set5 h.1 B hB5 _ 1 (by omega), set5 h.1 B hB5 _ 2 (by omega), set5 h.1 B hB5 _ 3 (by omega), set5 h.1 B hB5 _ 4 (by omega)]
    have : B = 0 ∨ B = 1 ∨ B = 2 ∨ B = 3 ∨ B = 4 := by omega
    rcases this with rfl | rfl | rfl | rfl | rfl <;> simp <;> omega
theorem fit_sum {s c : Int} {l : List Int} (h : FitL s c l) : sum5 l ≤ 160 := by
  have key : ∀ i : Nat, i < 5 → l.getD i 0 ≤ 32 := fun i hi => by
    obtain ⟨h0, h1⟩ := h.2 i hi
    split at h1
    · have := capF_bd (widthF s c i); omega
    · omega
  have := key 0 (by omega)
  have := key 1 (by omega)
  have := key 2 (by omega)
  have := key 3 (by omega)
  have := key 4 (by omega)
  unfold sum5
  omega
/-- At the end: none may have one more, or one more costs too much. -/
def Done (s c t bud : Int) (r : List Int) : Prop := bestF s c t r < 0 ∨ bud < totalF s c (r.set (bestF s c t r).toNat (r.getD (bestF s c t r).toNat 0 + 1))
theorem allocGo_fits {s c : Int} (t bud : Int) : ∀ (f : Nat) (l : List Int), FitL s c l → 160 - sum5 l < f →
    FitL s c (allocGo s c t bud f l) ∧ (totalF s c (allocGo s c t bud f l) = totalF s c l ∨ totalF s c (allocGo s c t bud f l) ≤ bud) ∧ Done s c t bud (allocGo s c t bud f l)
  | 0, l, h, hf => by have := fit_sum h; omega
  | f + 1, l, h, hf => by
    simp only [allocGo]
    by_cases hb : bestF s c t l < 0
    · rw [if_pos hb]; exact ⟨h, .inl rfl, .inl hb⟩
    · rw [if_neg hb]
      by_cases ht : totalF s c (l.set (bestF s c t l).toNat (l.getD (bestF s c t l).toNat 0 + 1)) > bud
      · rw [if_pos ht]; exact ⟨h, .inl rfl, .inr ht⟩
      · rw [if_neg ht]
        obtain ⟨h1, h2⟩ := fit_step (t := t) h (by omega)
        obtain ⟨a1, a2, a3⟩ := allocGo_fits t bud f _ h1 (by omega)
        refine ⟨a1, .inr ?_, a3⟩
        rcases a2 with a2 | a2 <;> omega
theorem fit_zero (s c : Int) : FitL s c [0, 0, 0, 0, 0] := by
  refine ⟨rfl, fun i hi => ?_⟩
  have e : ([0, 0, 0, 0, 0] : List Int).getD i 0 = 0 := by
    have : i = 0 ∨ i = 1 ∨ i = 2 ∨ i = 3 ∨ i = 4 := by omega
    rcases this with rfl | rfl | rfl | rfl | rfl <;> rfl
  rw [e]
  refine ⟨by omega, ?_⟩
  split
  · rename_i hb
    have hw : widthF s c i = widL.getD i 0 := by unfold widthF; rw [if_pos ⟨by omega, hb⟩]; simp
    rw [hw]
    have h5 : ∀ j : Fin 5, 0 ≤ capF (widL.getD j.val 0) := by decide +kernel
    exact h5 ⟨i, hi⟩
  · rfl
theorem total_zero (s c : Int) (hR : RightP s c) : totalF s c [0, 0, 0, 0, 0] = 0 := by
  have b0 : ∀ i : Nat, i < 5 → costAt s c [0, 0, 0, 0, 0] i = 0 := fun i hi => by
    have e : ([0, 0, 0, 0, 0] : List Int).getD i 0 = 0 := by
      have : i = 0 ∨ i = 1 ∨ i = 2 ∨ i = 3 ∨ i = 4 := by omega
      rcases this with rfl | rfl | rfl | rfl | rfl <;> rfl
    unfold costAt
    rw [e]
    split
    · rename_i hb
      have h1 := (fit_zero s c).2 i hi
      rw [e, if_pos hb] at h1
      unfold bitsF
      rw [if_pos h1]
      simp [pays_zero]
    · rfl
  have o : okTo s c [0, 0, 0, 0, 0] 5 = true := by
    have h := fit_zero s c
    simp only [okTo, (fit_ok h 0 (by omega)).1, (fit_ok h 1 (by omega)).1, (fit_ok h 2 (by omega)).1, (fit_ok h 3 (by omega)).1, (fit_ok h 4 (by omega)).1, Bool.and_true]
  unfold totalF
  rw [if_pos ⟨hR, o⟩]
  simp only [sumAt, b0 0 (by omega), b0 1 (by omega), b0 2 (by omega), b0 3 (by omega), b0 4 (by omega)]
  omega
theorem allocF_fits (s c t bud : Int) (hR : RightP s c) : FitL s c (allocF s c t bud) ∧ 0 ≤ totalF s c (allocF s c t bud) ∧ totalF s c (allocF s c t bud) ≤ max bud 0 ∧ Done s c t bud (allocF s c t bud) := by
  have hz := total_zero s c hR
  obtain ⟨h1, h2, h3⟩ := allocGo_fits t bud 161 [0, 0, 0, 0, 0] (fit_zero s c) (by simp [sum5])
  have h4 := fit_total hR h1
  unfold allocF
  refine ⟨h1, h4, ?_, h3⟩
  rcases h2 with h2 | h2 <;> omega
end Go.Proofs.YtcibajleknhklaaDoor
namespace Go.Proofs.YtcibajleknhklaaDoor
open Go.Vec Go.Cost
/-- A slope by the document. -/
def slopeR (t : Int) (b : Nat) : Int := 64 / widL.getD b 0 + (8 - min (max t 0) 7) * b
theorem width_in {s c : Int} {b : Nat} (h : (b : Int) < bandsF s c) : widthF s c b = widL.getD b 0 := by
  unfold widthF; rw [if_pos ⟨by omega, h⟩]; simp
theorem slopeR_eq (s c t : Int) (b : Nat) (h : (b : Int) < bandsF s c) : slopeF s c t b = slopeR t b := by
  have hb := bandsF_bd s c
  have h5 : ∀ i : Fin 5, ¬ widL.getD i.val 0 = 0 := by decide
  unfold slopeF slopeR
  rw [width_in h, if_neg (h5 ⟨b, by omega⟩)]
theorem slopeR_pos (t : Int) (b : Nat) (hb : b < 5) : 1 ≤ slopeR t b ∧ slopeR t b ≤ 64 := by
  unfold slopeR
  have : b = 0 ∨ b = 1 ∨ b = 2 ∨ b = 3 ∨ b = 4 := by omega
  rcases this with rfl | rfl | rfl | rfl | rfl <;> simp [widL] <;> omega
def lev (t : Int) (b : Nat) (l : List Int) : Int := (l.getD b 0 + 1) * slopeR t b
def more (c : Int) (b : Nat) (l : List Int) : Int := c * (bitsF (widL.getD b 0) (l.getD b 0 + 1) - bitsF (widL.getD b 0) (l.getD b 0))
def inc (b : Nat) (l : List Int) : List Int := l.set b (l.getD b 0 + 1)
/-- From a level and a band on. -/
def runI (t bud c : Int) (nb : Nat) : Nat → Int → Nat → List Int → Int → List Int
  | 0, _, _, l, _ => l
  | F + 1, lv, b, l, sum =>
    if b < nb then
      if l.getD b 0 < capF (widL.getD b 0) ∧ lev t b l = lv then
        if bud < sum + more c b l then l else runI t bud c nb F lv (b + 1) (inc b l) (sum + more c b l)
      else runI t bud c nb F lv (b + 1) l sum
    else if lv < 3000 then runI t bud c nb F (lv + 1) 0 l sum else l
/-- What the best of the first n bands is. -/
theorem bestTo_spec (s c t : Int) (l : List Int) : ∀ n : Nat, (n : Int) ≤ bandsF s c →
    ((bestTo s c t l n).1 < 0 → ∀ b, b < n → capF (widL.getD b 0) ≤ l.getD b 0) ∧
    (0 ≤ (bestTo s c t l n).1 → ∃ b, (bestTo s c t l n).1 = (b : Nat) ∧ b < n ∧ (bestTo s c t l n).2 = lev t b l ∧ l.getD b 0 < capF (widL.getD b 0) ∧ ∀ j, j < n → l.getD j 0 < capF (widL.getD j 0) → lev t b l < lev t j l ∨ (lev t j l = lev t b l ∧ b ≤ j))
  | 0, _ => ⟨fun _ b hb => absurd hb (by omega), fun h => by simp [bestTo] at h⟩
  | n + 1, hn => by
    obtain ⟨h1, h2⟩ := bestTo_spec s c t l n (by omega)
    have hw : widthF s c n = widL.getD n 0 := width_in (by omega)
    have hs : slopeF s c t n = slopeR t n := slopeR_eq s c t n (by omega)
    have hbd := bestTo_bd s c t l n
    simp only [bestTo, hw, hs]
    by_cases hc : capF (widL.getD n 0) ≤ l.getD n 0
    · rw [if_pos hc]
      refine ⟨fun h b hb => ?_, fun h => ?_⟩
      · by_cases e : b = n
        · subst e; exact hc
        · exact h1 h b (by omega)
      · obtain ⟨b, e1, e2, e3, e4, e5⟩ := h2 h
        refine ⟨b, e1, by omega, e3, e4, fun j hj hcj => ?_⟩
        by_cases e : j = n
        · subst e; omega
        · exact e5 j (by omega) hcj
    · rw [if_neg hc]
      by_cases hlt : (bestTo s c t l n).1 < 0 ∨ (l.getD n 0 + 1) * slopeR t n < (bestTo s c t l n).2
      · rw [if_pos hlt]
        refine ⟨fun h => by simp only at h; omega, fun _ => ⟨n, rfl, by omega, rfl, by omega, fun j hj hcj => ?_⟩⟩
        by_cases e : j = n
        · subst e; exact .inr ⟨rfl, Nat.le_refl _⟩
        · rcases hlt with hlt | hlt
          · have := h1 hlt j (by omega); omega
          · by_cases h0 : (bestTo s c t l n).1 < 0
            · have := h1 h0 j (by omega); omega
            · obtain ⟨b, e1, e2, e3, e4, e5⟩ := h2 (by omega)
              rw [e3] at hlt
              have := e5 j (by omega) hcj
              left
              show (l.getD n 0 + 1) * slopeR t n < _
              omega
      · rw [if_neg hlt]
        rw [not_or] at hlt
        refine ⟨fun h => absurd h hlt.1, fun h => ?_⟩
        obtain ⟨b, e1, e2, e3, e4, e5⟩ := h2 h
        refine ⟨b, e1, by omega, e3, e4, fun j hj hcj => ?_⟩
        by_cases e : j = n
        · subst e
          have := hlt.2
          rw [e3] at this
          have e6 : lev t j l = (l.getD j 0 + 1) * slopeR t j := rfl
          by_cases e7 : lev t j l = lev t b l
          · exact .inr ⟨e7, by omega⟩
          · left; omega
        · exact e5 j (by omega) hcj
/-- What lies ahead: nothing that may still come is behind this place. -/
def Ahead (t : Int) (nb : Nat) (lv : Int) (b : Nat) (l : List Int) : Prop := ∀ j, j < nb → l.getD j 0 < capF (widL.getD j 0) → lv < lev t j l ∨ (lev t j l = lv ∧ b ≤ j)
theorem fit_oks {s c : Int} {l : List Int} (h : FitL s c l) : okTo s c l 5 = true := by
  simp only [okTo, (fit_ok h 0 (by omega)).1, (fit_ok h 1 (by omega)).1, (fit_ok h 2 (by omega)).1, (fit_ok h 3 (by omega)).1, (fit_ok h 4 (by omega)).1, Bool.and_true]
/-- One pulse more. -/
theorem fit_inc {s c : Int} {l : List Int} (h : FitL s c l) (b : Nat) (hb : (b : Int) < bandsF s c) (hc : l.getD b 0 < capF (widL.getD b 0)) : FitL s c (inc b l) ∧ sum5 (inc b l) = sum5 l + 1 := by
  have hbd := bandsF_bd s c
  have hB5 : b < 5 := by omega
  unfold inc
  refine ⟨⟨by simpa using h.1, fun i hi => ?_⟩, ?_⟩
  · rw [set5 h.1 b hB5 _ i hi]
    obtain ⟨h0, h1⟩ := h.2 i hi
    by_cases e : i = b
    · subst e
      rw [if_pos rfl, if_pos hb, width_in hb]
      exact ⟨by omega, by omega⟩
    · rw [if_neg e]
      exact ⟨h0, h1⟩
  · unfold sum5
    rw [set5 h.1 b hB5 _ 0 (by omega), set5 h.1 b hB5 _ 1 (by omega), set5 h.1 b hB5 _ 2 (by omega), set5 h.1 b hB5 _ 3 (by omega), set5 h.1 b hB5 _ 4 (by omega)]
    have : b = 0 ∨ b = 1 ∨ b = 2 ∨ b = 3 ∨ b = 4 := by omega
    rcases this with rfl | rfl | rfl | rfl | rfl <;> simp <;> omega
theorem total_inc {s c : Int} (hR : RightP s c) {l : List Int} (h : FitL s c l) (b : Nat) (hb : (b : Int) < bandsF s c) (hc : l.getD b 0 < capF (widL.getD b 0)) : totalF s c (inc b l) = totalF s c l + more c b l := by
  obtain ⟨h', _⟩ := fit_inc h b hb hc
  have hbd := bandsF_bd s c
  have hB5 : b < 5 := by omega
  unfold totalF
  rw [if_pos ⟨hR, fit_oks h'⟩, if_pos ⟨hR, fit_oks h⟩]
  have key : ∀ i : Nat, i < 5 → costAt s c (inc b l) i = costAt s c l i + if i = b then bitsF (widL.getD b 0) (l.getD b 0 + 1) - bitsF (widL.getD b 0) (l.getD b 0) else 0 := fun i hi => by
    unfold costAt inc
    rw [set5 h.1 b hB5 _ i hi]
    by_cases e : i = b
    · subst e
      rw [if_pos rfl, if_pos rfl, if_pos hb, if_pos hb, width_in hb]
      omega
    · rw [if_neg e, if_neg e]
      omega
  have hsum : sumAt s c (inc b l) 5 = sumAt s c l 5 + (bitsF (widL.getD b 0) (l.getD b 0 + 1) - bitsF (widL.getD b 0) (l.getD b 0)) := by
    simp only [sumAt, key 0 (by omega), key 1 (by omega), key 2 (by omega), key 3 (by omega), key 4 (by omega)]
    generalize bitsF (widL.getD b 0) (l.getD b 0 + 1) - bitsF (widL.getD b 0) (l.getD b 0) = D
    have : b = 0 ∨ b = 1 ∨ b = 2 ∨ b = 3 ∨ b = 4 := by omega
    rcases this with rfl | rfl | rfl | rfl | rfl <;> simp <;> omega
  rw [hsum, Int.add_mul]
  unfold more
  rw [Int.mul_comm c]
theorem run_eq {s c : Int} (hR : RightP s c) (t bud : Int) (nb : Nat) (hnb : bandsF s c = nb) : ∀ (F f : Nat) (lv : Int) (b : Nat) (l : List Int), 1 ≤ lv → lv ≤ 3000 → b ≤ nb → ((3000 - lv).toNat) * (nb + 1) + (nb - b) < F → FitL s c l → Ahead t nb lv b l → 160 - sum5 l < f →
    runI t bud c nb F lv b l (totalF s c l) = allocGo s c t bud f l
  | 0, _, _, _, _, _, _, _, hF, _, _, _ => absurd hF (by omega)
  | F + 1, f, lv, b, l, hl1, hl2, hbn, hF, hfit, hah, hf => by
    have hbd := bandsF_bd s c
    simp only [runI]
    by_cases hb : b < nb
    · rw [if_pos hb]
      by_cases hfire : l.getD b 0 < capF (widL.getD b 0) ∧ lev t b l = lv
      · rw [if_pos hfire]
        obtain ⟨hc, hlev⟩ := hfire
        have hbb : (b : Int) < bandsF s c := by omega
        -- the best band is this one
        have hbest : bestF s c t l = b := by
          obtain ⟨h1, h2⟩ := bestTo_spec s c t l nb (by omega)
          unfold bestF
          rw [hnb, Int.toNat_natCast]
          by_cases h0 : (bestTo s c t l nb).1 < 0
          · have := h1 h0 b hb; omega
          · obtain ⟨j, e1, e2, e3, e4, e5⟩ := h2 (by omega)
            rw [e1]
            have a1 := e5 b hb hc
            have a2 := hah j e2 e4
            have : j = b := by omega
            rw [this]
        have hsum := fit_sum hfit
        obtain ⟨f', rfl⟩ : ∃ f', f = f' + 1 := ⟨f - 1, by omega⟩
        simp only [allocGo]
        rw [hbest, if_neg (show ¬ ((b : Nat) : Int) < 0 by omega), Int.toNat_natCast]
        show _ = if bud < totalF s c (inc b l) then l else allocGo s c t bud f' (inc b l)
        rw [total_inc hR hfit b hbb hc]
        by_cases hbud : bud < totalF s c l + more c b l
        · rw [if_pos hbud, if_pos hbud]
        · rw [if_neg hbud, if_neg hbud]
          obtain ⟨hfit', hs'⟩ := fit_inc hfit b hbb hc
          rw [← total_inc hR hfit b hbb hc]
          refine run_eq hR t bud nb hnb F f' lv (b + 1) (inc b l) hl1 hl2 (by omega) (by omega) hfit' ?_ (by omega)
          intro j hj hcj
          have hB5 : b < 5 := by omega
          have hj5 : j < 5 := by omega
          have e0 : (inc b l).getD j 0 = if j = b then l.getD b 0 + 1 else l.getD j 0 := set5 hfit.1 b hB5 _ j hj5
          by_cases e : j = b
          · subst e
            rw [if_pos rfl] at e0
            left
            have hp := slopeR_pos t j hj5
            have e1 : lev t j (inc j l) = lev t j l + slopeR t j := by
              unfold lev
              rw [e0, show l.getD j 0 + 1 + 1 = (l.getD j 0 + 1) + 1 by omega, Int.add_mul (l.getD j 0 + 1) 1, Int.one_mul]
            omega
          · rw [if_neg e] at e0
            rw [e0] at hcj
            have e1 : lev t j (inc b l) = lev t j l := by unfold lev; rw [e0]
            rw [e1]
            rcases hah j hj hcj with h | ⟨h, h'⟩
            · exact .inl h
            · exact .inr ⟨h, by omega⟩
      · rw [if_neg hfire]
        refine run_eq hR t bud nb hnb F f lv (b + 1) l hl1 hl2 (by omega) (by omega) hfit ?_ hf
        intro j hj hcj
        rcases hah j hj hcj with h | ⟨h, h'⟩
        · exact .inl h
        · by_cases e : j = b
          · subst e; exact absurd ⟨hcj, h⟩ hfire
          · exact .inr ⟨h, by omega⟩
    · rw [if_neg hb]
      by_cases hlv : lv < 3000
      · rw [if_pos hlv]
        refine run_eq hR t bud nb hnb F f (lv + 1) 0 l (by omega) (by omega) (by omega) ?_ hfit ?_ hf
        · obtain ⟨d, hd⟩ : ∃ d : Nat, (3000 - lv).toNat = d + 1 := ⟨(3000 - lv).toNat - 1, by omega⟩
          have hd' : (3000 - (lv + 1)).toNat = d := by omega
          rw [hd, Nat.add_mul] at hF
          rw [hd']
          omega
        · intro j hj hcj
          rcases hah j hj hcj with h | ⟨h, h'⟩
          · by_cases e : lev t j l = lv + 1
            · exact .inr ⟨e, by omega⟩
            · exact .inl (by omega)
          · omega
      · rw [if_neg hlv]
        have hnone : bestF s c t l < 0 := by
          obtain ⟨h1, h2⟩ := bestTo_spec s c t l nb (by omega)
          unfold bestF
          rw [hnb, Int.toNat_natCast]
          refine Int.not_le.1 fun h0 => ?_
          obtain ⟨j, e1, e2, e3, e4, e5⟩ := h2 h0
          have hj5 : j < 5 := by omega
          have hp := slopeR_pos t j hj5
          have hcb := capF_bd (widL.getD j 0)
          have hk := (hfit.2 j hj5).1
          have hle : lev t j l ≤ 33 * 64 := by
            unfold lev
            exact Int.le_trans (Int.mul_le_mul_of_nonneg_right (show l.getD j 0 + 1 ≤ 33 by omega) (by omega)) (Int.mul_le_mul_of_nonneg_left hp.2 (by omega))
          rcases hah j e2 e4 with h | ⟨h, h'⟩ <;> omega
        have hsum := fit_sum hfit
        obtain ⟨f', rfl⟩ : ∃ f', f = f' + 1 := ⟨f - 1, by omega⟩
        simp only [allocGo]
        rw [if_pos hnone]
end Go.Proofs.YtcibajleknhklaaDoor
end

section
namespace Go.Proofs.YtcibajleknhklaaDoor
open Go.RowKit Go.BigFrame Go.Vec Go.Cost
set_option linter.unusedSimpArgs false
set_option linter.unusedVariables false
/-- Of the next level's pulses those that fit, band by band. -/
def finF (s c bud : Int) (nb : Nat) (next : Nat → Int) : Nat → Nat → (Nat → Int) → (Nat → Int)
  | 0, _, k => k
  | f + 1, b, k => if ¬ next b = k b ∧ bud < sumK s c (updI k b (next b)) nb * c then k else finF s c bud nb next f (b + 1) (updI k b (next b))
/-- All pulses up to a level fit. -/
def Fits (s c bud : Int) (sl : Nat → Int) (nb : Nat) (lv : Int) : Prop := sumK s c (atTo s c sl lv nb) nb * c ≤ bud
/-- What the search comes to. -/
structure Found (s c bud : Int) (sl : Nat → Int) (nb : Nat) (lo hi : Int) : Prop where
  lo0 : 0 ≤ lo
  lt : lo < hi
  hi0 : hi ≤ topTo s c sl nb + 1
  low : lo = 0 ∨ Fits s c bud sl nb lo
  high : hi = topTo s c sl nb + 1 ∨ ¬ Fits s c bud sl nb hi
def slTo (s c t : Int) (n : Nat) : Nat → Int := fun b => if b < n then slopeF s c t b else 0
theorem slTo_in (s c t : Int) (nb : Nat) (hnb : bandsF s c = nb) (b : Nat) (hb : b < nb) : 1 ≤ slTo s c t nb b ∧ slTo s c t nb b ≤ 64 := by
  have h5 := bandsF_bd s c
  unfold slTo
  rw [if_pos hb, slopeR_eq s c t b (by omega)]
  exact slopeR_pos t b (by omega)
theorem cellsEq_i64 (f g : Nat → Int) : ∀ l : List Nat, cellsEq (l.map fun i => Value.int .i64 (f i)) (l.map fun i => Value.int .i64 (g i)) = l.all fun i => f i == g i
  | [] => rfl
  | i :: l => by
    simp only [List.map_cons, cellsEq, cellEq, List.all_cons, cellsEq_i64 f g l]
theorem layout5 : layout Tryd.prog 4 A5 = some ((List.range 5).map fun i => Leaf.int (i64s i)) := by kernel_rfl
theorem eq5 (f g : Nat → Int) (w : World) : (Op.equalIn 10000 A5 (.agg (ag i64s 5 f)) (.agg (ag i64s 5 g))).run Tryd.prog w = .ok ((List.range 5).all fun i => f i == g i) w := by
  have h := eq_flat (P := Tryd.prog) A5 4 _ layout5 (by decide) (by kernel_rfl) ((List.range 5).map fun i => Value.int .i64 (f i)) ((List.range 5).map fun i => Value.int .i64 (g i)) (fitAll_ag i64s f _) (fitAll_ag i64s g _) w
  rw [cellsEq_i64] at h
  exact h
theorem eq5_yes (f g : Nat → Int) (h : ∀ j, j < 5 → f j = g j) (w : World) : (Op.equalIn 10000 A5 (.agg (ag i64s 5 f)) (.agg (ag i64s 5 g))).run Tryd.prog w = .ok true w := by
  rw [eq5, show ((List.range 5).all fun i => f i == g i) = true from by
    rw [List.all_eq_true]
    intro j hj
    simpa using h j (by simpa using hj)]
theorem eq5_no (f g : Nat → Int) (j : Nat) (hj : j < 5) (h : ¬ f j = g j) (w : World) : (Op.equalIn 10000 A5 (.agg (ag i64s 5 f)) (.agg (ag i64s 5 g))).run Tryd.prog w = .ok false w := by
  rw [eq5, show ((List.range 5).all fun i => f i == g i) = false from by
    rw [List.all_eq_false]
    exact ⟨j, by simpa using hj, by simpa using h⟩]
theorem JobAt.setSlope {jb hb sh s c sl} {w : World} (h : JobAt jb hb sh s c sl w) (b : Nat) (hb5 : b < 5) (x : Int) (h1 : hb < jb) (h2 : sh < jb) (h3 : 1 < jb) : JobAt jb hb sh s c (updI sl b x) (w.setCell ⟨jb, 3 + b, none⟩ (.int .i64 x)) := by
  have ho := only_setCell w ⟨jb, 3 + b, none⟩ (.int .i64 x)
  have hB : Below jb w (w.setCell ⟨jb, 3 + b, none⟩ (.int .i64 x)) := ho.below (Below.refl jb w) (Nat.le_refl _)
  refine ⟨?_, (ho.block _ (by show hb ≠ jb; omega)).trans h.sha, h.sheet.below h2 hB, ⟨by rw [ho.size]; exact h.wid.1, fun j hj => (World.cell?_of_block (w := w) (ho.block 1 (by show _ ≠ jb; omega))).trans (h.wid.2 j hj)⟩⟩
  rw [setCell_own w jb (3 + b) _ _ _ _ h.job]
  rcases (show b = 0 ∨ b = 1 ∨ b = 2 ∨ b = 3 ∨ b = 4 by omega) with h | h | h | h | h <;> subst h <;> rfl
theorem JobAt.ext {jb hb sh s c sl} {sl' : Nat → Int} {w : World} (h : JobAt jb hb sh s c sl w) (he : ∀ b, b < 5 → sl b = sl' b) : JobAt jb hb sh s c sl' w := by
  obtain ⟨h1, h2, h3, h4⟩ := h
  rw [he 0 (by omega), he 1 (by omega), he 2 (by omega), he 3 (by omega), he 4 (by omega)] at h1
  exact ⟨h1, h2, h3, h4⟩
/-- The call's frame: the mode, the result, the job. -/
structure JS (w : World) (B hb sh : Nat) (s c : Int) (sl : Nat → Int) (W : World) : Prop where
  below : Below B w W
  mo : W.heap[B]? = some (.cells #[.int .i64 s, .int .i64 c] 60 (0, 0))
  rb : Bx (B + 1) A5 i64s 5 (fun _ => 0) W
  job : JobAt (B + 1 + 1) hb sh s c sl W
  hl : hb < B ∧ sh < B ∧ 1 < B
theorem JS.keep {w B hb sh s c sl} {W W' : World} (h : JS w B hb sh s c sl W) (hb' : Below W.heap.size W W') : JS w B hb sh s c sl W' :=
  ⟨h.below.trans (hb'.mono (by have := (block_facts h.mo).2.2; omega)), (hb'.block _ (block_facts h.mo).2.2).trans h.mo, h.rb.keep hb', h.job.keep hb', h.hl⟩
theorem JS.m0 {w B hb sh s c sl} {W : World} (h : JS w B hb sh s c sl W) : W.cell? ⟨B, 0, none⟩ = some (.int .i64 s) := (block_facts h.mo).1 0
theorem JS.m1 {w B hb sh s c sl} {W : World} (h : JS w B hb sh s c sl W) : W.cell? ⟨B, 1, none⟩ = some (.int .i64 c) := (block_facts h.mo).1 1
/-- .. and the pulses, and the next level's. -/
structure JK (w : World) (B hb sh kb xb : Nat) (s c : Int) (sl k nx : Nat → Int) (W : World) : Prop where
  js : JS w B hb sh s c sl W
  o1 : B + 1 + 1 < kb
  o2 : kb < xb
  kk : Bx kb A5 i64s 5 k W
  xx : Bx xb A5 i64s 5 nx W
theorem JK.keep {w B hb sh kb xb s c sl k nx} {W W' : World} (h : JK w B hb sh kb xb s c sl k nx W) (hb' : Below W.heap.size W W') : JK w B hb sh kb xb s c sl k nx W' :=
  ⟨h.js.keep hb', h.o1, h.o2, h.kk.keep hb', h.xx.keep hb'⟩
theorem JS.other {w B hb sh s c sl} {q : Nat} {W W' : World} (h : JS w B hb sh s c sl W) (ho : Only q W W') (hq : B + 1 + 1 < q) : JS w B hb sh s c sl W' := by
  have h1 := h.hl
  exact ⟨ho.below h.below (by omega), (ho.block _ (by omega)).trans h.mo, (ho.block _ (by omega)).trans h.rb, h.job.only ho (by omega) (by omega) (by omega) (by omega), h1⟩
theorem JK.onlyK {w B hb sh kb xb s c sl k nx} {k' : Nat → Int} {W W' : World} (h : JK w B hb sh kb xb s c sl k nx W) (ho : Only kb W W') (hf : Bx kb A5 i64s 5 k' W') : JK w B hb sh kb xb s c sl k' nx W' := by
  have h1 := h.o1
  have h2 := h.o2
  exact ⟨h.js.other ho h1, h1, h2, hf, (ho.block _ (by omega)).trans h.xx⟩
theorem jk_new {w B hb sh s c sl} {wq : World} (h : JS w B hb sh s c sl wq) (k0 k1 : Nat → Int) :
    JK w B hb sh wq.heap.size (wq.heap.size + 1) s c sl k0 k1 ((((wq.alloc (.cells #[.int .i64 0, .int .i64 0, .int .i64 0, .int .i64 0, .int .i64 0] A5 (0, 0))).alloc (.cells #[.int .i64 0, .int .i64 0, .int .i64 0, .int .i64 0, .int .i64 0] A5 (0, 0))).setCells wq.heap.size 0 (ag i64s 5 k0).toList).setCells (wq.heap.size + 1) 0 (ag i64s 5 k1).toList) := by
  obtain ⟨W1, hW1⟩ : ∃ W1, ((wq.alloc (.cells #[.int .i64 0, .int .i64 0, .int .i64 0, .int .i64 0, .int .i64 0] A5 (0, 0))).alloc (.cells #[.int .i64 0, .int .i64 0, .int .i64 0, .int .i64 0, .int .i64 0] A5 (0, 0))) = W1 := ⟨_, rfl⟩
  have hb0 : Below wq.heap.size wq W1 := by subst hW1; (repeat' (first | (with_reducible exact Below.refl _ _) | (with_reducible assumption) | (with_reducible refine Below.alloc ?_ ?_ _) | (with_reducible refine below_grew ?_ ?_ _) | (with_reducible refine Below.setCell ?_ ?_ _) | (with_reducible refine Below.drew ?_) | (with_reducible refine below_drewN ?_ _) | omega | (simp; done) | (simp; omega)))
  have A1 : W1.heap[wq.heap.size]? = some (.cells #[.int .i64 0, .int .i64 0, .int .i64 0, .int .i64 0, .int .i64 0] A5 (0, 0)) := by subst hW1; exact alloc_two _ _ _
  have A2 : W1.heap[wq.heap.size + 1]? = some (.cells #[.int .i64 0, .int .i64 0, .int .i64 0, .int .i64 0, .int .i64 0] A5 (0, 0)) := by subst hW1; exact alloc_secondOf _ _ _
  rw [hW1]
  have o1 := only_setCells W1 wq.heap.size 0 (ag i64s 5 k0).toList
  have c1 := cells_all A1 (N := 5) rfl (cs := ag i64s 5 k0) (ag_size _ _ _)
  have A2' := (o1.block (wq.heap.size + 1) (by omega)).trans A2
  have o2 := only_setCells (W1.setCells wq.heap.size 0 (ag i64s 5 k0).toList) (wq.heap.size + 1) 0 (ag i64s 5 k1).toList
  have c2 := cells_all A2' (N := 5) rfl (cs := ag i64s 5 k1) (ag_size _ _ _)
  have hbb := o2.below (o1.below hb0 (Nat.le_refl _)) (by omega)
  exact ⟨h.keep hbb, h.job.lt.1, by omega, (o2.block _ (by omega)).trans c1, c2⟩
theorem k5_new (W : World) (F : Nat → Int) : Below W.heap.size W ((W.alloc (.cells #[.int .i64 0, .int .i64 0, .int .i64 0, .int .i64 0, .int .i64 0] A5 (0, 0))).setCells W.heap.size 0 (ag i64s 5 F).toList) ∧ Bx W.heap.size A5 i64s 5 F ((W.alloc (.cells #[.int .i64 0, .int .i64 0, .int .i64 0, .int .i64 0, .int .i64 0] A5 (0, 0))).setCells W.heap.size 0 (ag i64s 5 F).toList) :=
  ⟨(only_setCells _ _ _ _).below (by (repeat' (first | (with_reducible exact Below.refl _ _) | (with_reducible assumption) | (with_reducible refine Below.alloc ?_ ?_ _) | (with_reducible refine below_grew ?_ ?_ _) | (with_reducible refine Below.setCell ?_ ?_ _) | (with_reducible refine Below.drew ?_) | (with_reducible refine below_drewN ?_ _) | omega | (simp; done) | (simp; omega)))) (Nat.le_refl _), cells_all (alloc_at W _) (N := 5) rfl (ag_size _ _ _)⟩
theorem JK.size {w B hb sh kb xb s c sl k nx} {W : World} (h : JK w B hb sh kb xb s c sl k nx W) : xb < W.heap.size := (block_facts h.xx).2.2
theorem JK.other {w B hb sh kb xb s c sl k nx} {q : Nat} {W W' : World} (h : JK w B hb sh kb xb s c sl k nx W) (ho : Only q W W') (hq : xb < q) : JK w B hb sh kb xb s c sl k nx W' := by
  have h1 := h.o1
  have h2 := h.o2
  exact ⟨h.js.other ho (by omega), h1, h2, (ho.block _ (by omega)).trans h.kk, (ho.block _ (by omega)).trans h.xx⟩
/-- A share: its sheet. -/
structure ShareAt (hb sh : Nat) (w : World) : Prop where
  sha : w.heap[hb]? = some (.cells #[.pointer (some ⟨sh, 0, none⟩)] 77 (0, 0))
  sheet : SheetOK sh w
set_option maxHeartbeats 4000000 in
set_option maxRecDepth 100000 in
theorem shAlloc (hb sh : Nat) (s c t bud : Int) (nb : Nat) (hnb : bandsF s c = nb) (w : World) (h : ShareAt hb sh w) (hW : WidthW w) :
    Calls Tryd.prog 29 #[.pointer (some ⟨hb, 0, none⟩), .agg #[.int .i64 s, .int .i64 c], .int .i64 t, .int .i64 bud] w fun e w' => ∃ lo, Found s c bud (slTo s c t nb) nb lo (lo + 1) ∧
      e = .returned (.agg (ag i64s 5 (finF s c bud nb (atTo s c (slTo s c t nb) (lo + 1) nb) nb 0 (atTo s c (slTo s c t nb) lo nb)))) ∧ Below w.heap.size w w' := by
  have HS := Lib.hid h
  have HW := Lib.hid hW
  have hbn := Lib.hid (fun w => modeBands s c w)
  rw [hnb] at hbn
  have hnb5 : nb ≤ 5 := by have := bandsF_bd s c; omega
  have hslo := Lib.hid (fun (b : Int) w hT => slope_any s c t b w hT)
  have hsl := slTo_in s c t nb hnb
  have hat := Lib.hid (fun jb lv hlv w h => shAt jb hb sh s c (slTo s c t nb) nb hnb hsl lv hlv w h)
  have htt := Lib.hid (fun jb k w h => shTotal jb hb sh s c (slTo s c t nb) k nb hnb w h)
  have htp := Lib.hid (fun jb w h => shTop jb hb sh s c (slTo s c t nb) nb hnb hsl w h)
  have htb := topTo_bd s c (slTo s c t nb) nb hnb hsl nb (Nat.le_refl _)
  have HTB := Lib.hid htb
  clear hsl htb hnb
  have hlt : hb < w.heap.size := (block_facts h.sha).2.2
  have hlt2 := sheet_lt h.sheet
  have hlt3 := hW.1
  clear h hW
  go_enter Tryd.func29, Tryd.ntmps29
  go_upto_region 2 with fail
  refine cut_world (fun W => JS w w.heap.size hb sh s c (slTo s c t 0) W) ⟨by (repeat' (first | (with_reducible exact Below.refl _ _) | (with_reducible assumption) | (with_reducible refine Below.alloc ?_ ?_ _) | (with_reducible refine below_grew ?_ ?_ _) | (with_reducible refine Below.setCell ?_ ?_ _) | (with_reducible refine Below.drew ?_) | (with_reducible refine below_drewN ?_ _) | omega | (simp; done) | (simp; omega))), ?_, ?_, ?_, ⟨hlt, hlt2, hlt3⟩⟩ ?_
  · exact alloc_three _ _ _ _
  · exact alloc_second _ _ _ _
  · have hbb : Below w.heap.size w (((w.alloc (.cells #[.int .i64 s, .int .i64 c] 60 (0, 0))).alloc (.cells #[.int .i64 0, .int .i64 0, .int .i64 0, .int .i64 0, .int .i64 0] A5 (0, 0))).alloc (.cells #[.pointer (some ⟨hb, 0, none⟩), .int .i64 s, .int .i64 c, .int .i64 0, .int .i64 0, .int .i64 0, .int .i64 0, .int .i64 0] 147 (0, 0))) := by (repeat' (first | (with_reducible exact Below.refl _ _) | (with_reducible assumption) | (with_reducible refine Below.alloc ?_ ?_ _) | (with_reducible refine below_grew ?_ ?_ _) | (with_reducible refine Below.setCell ?_ ?_ _) | (with_reducible refine Below.drew ?_) | (with_reducible refine below_drewN ?_ _) | omega | (simp; done) | (simp; omega)))
    exact ⟨alloc_third _ _ _ _, (hbb.block _ hlt).trans HS.out.sha, HS.out.sheet.below hlt2 hbb, HW.out.below' hbb⟩
  intro V hV
  generalize hBd : w.heap.size = B at *
  have HBd := Lib.hid hBd
  have HV := Lib.hid hV
  have hm0 := hV.m0
  have hm1 := hV.m1
  clear hBd hV hlt hlt2 hlt3 HS HW
  go_wp2_with (go_at_call 53; refine (hbn.out _).mono ?_; rintro e wn ⟨rfl, hbb⟩; have HV2 := Lib.hid (HV.out.keep hbb); clear hbb)
  clear hm0 hm1 HV
  go_loopw [10, 24] (fun v10 cnt wr => ∃ b : Nat, b ≤ nb ∧ cnt = .int .i64 b ∧ JS w B hb sh s c (slTo s c t b) wr) (fun _ cnt _ => nb - (intOf cnt).toNat)
  case atStart => exact ⟨0, by omega, rfl, HV2.out⟩
  case round =>
    clear HV2
    obtain ⟨b, hbl, rfl, hL⟩ := hrel
    have HL := Lib.hid hL
    have hb0 : (0 : Int) ≤ b := by omega
    have hm0 := hL.m0
    have hm1 := hL.m1
    have hmm := (block_facts hL.mo).2.2
    have hjj := hL.job.lt.1
    clear hL
    by_cases hlt : b < nb
    · have hlt' : (b : Int) < nb := by omega
      have hb5 : (b : Int) < 5 := by omega
      go_upto_region 5 with fail
      clear hlt'
      first | refine wp_region_grew2 9 (by kernel_rfl) (by kernel_rfl) ?_ | refine wp_region_grew 9 (by kernel_rfl) (by kernel_rfl) ?_
      simp only [List.take_succ_cons, List.take_zero, List.drop_succ_cons, List.drop_zero]
      repeat (go_big_quiet_step ((go_at_call 74; exact Calls.grew_of (hslo.out _ _ (HL.out.keep (by (repeat' (first | (with_reducible exact Below.refl _ _) | (with_reducible assumption) | (with_reducible refine Below.alloc ?_ ?_ _) | (with_reducible refine below_grew ?_ ?_ _) | (with_reducible refine Below.setCell ?_ ?_ _) | (with_reducible refine Below.drew ?_) | (with_reducible refine below_drewN ?_ _) | omega | (simp; done) | (simp; omega))))).job.wid))))
      refine wpQuiet_nil ?_
      rintro _ ⟨x, rfl⟩
      have hl2 := HL.out.keep (W' := wr.grew x) (by (repeat' (first | (with_reducible exact Below.refl _ _) | (with_reducible assumption) | (with_reducible refine Below.alloc ?_ ?_ _) | (with_reducible refine below_grew ?_ ?_ _) | (with_reducible refine Below.setCell ?_ ?_ _) | (with_reducible refine Below.drew ?_) | (with_reducible refine below_drewN ?_ _) | omega | (simp; done) | (simp; omega))))
      have kc2 := hl2.job.cs b (by omega)
      have kf2 := (block_facts hl2.job.job).2.1 (3 + b)
      have HL2 := Lib.hid hl2
      clear hl2 hm0 hm1 hmm hjj
      go_upto_region 6 with fail
      clear kc2 kf2
      have hjs := HL2.out.job.setSlope b (by omega) (slopeF s c t b) (by have := HL2.out.hl; omega) (by have := HL2.out.hl; omega) (by have := HL2.out.hl; omega)
      have ho := only_setCell (wr.grew x) ⟨B + 1 + 1, 3 + b, none⟩ (.int .i64 (slopeF s c t b))
      refine cut_world (fun W => JS w B hb sh s c (slTo s c t (b + 1)) W) ⟨ho.below HL2.out.below (by show B ≤ B + 1 + 1; omega), (ho.block _ (by show B ≠ B + 1 + 1; omega)).trans HL2.out.mo, (ho.block _ (by show B + 1 ≠ B + 1 + 1; omega)).trans HL2.out.rb, hjs.ext fun j hj => ?_, HL2.out.hl⟩ ?_
      · unfold updI slTo
        by_cases e : j = b
        · rw [if_pos e, if_pos (by omega), e]
        · rw [if_neg e]
          by_cases e2 : j < b
          · rw [if_pos e2, if_pos (by omega)]
          · rw [if_neg e2, if_neg (by omega)]
      clear HL2 HL hjs ho
      intro V5 hV5
      have HV5 := Lib.hid hV5
      clear hV5
      go_wp2_with fail
      go_roundw
      case rel => exact ⟨b + 1, by omega, rfl, HV5.out⟩
      case measure => simp [intOf]; omega
    · have hlt' : ¬ (b : Int) < nb := by omega
      obtain rfl : b = nb := by omega
      clear hlt hmm hjj hm0 hm1
      go_upto_region 7 with fail
      clear hlt'
      go_wp2_with (go_at_call 75; refine (htp.out _ _ HL.out.job).mono ?_; rintro e wn ⟨rfl, hbb⟩; have HV3 := Lib.hid (HL.out.keep hbb); clear hbb)
      have htb := HTB.out
      obtain ⟨T, hT⟩ : ∃ T, topTo s c (slTo s c t b) b = T := ⟨_, rfl⟩
      have HTE := Lib.hid hT
      rw [hT] at htb ⊢
      have hT1 : wrap64 (T + 1) = T + 1 := by unfold wrap64; omega
      rw [hT1]
      clear hT hT1
      obtain ⟨sl, hsl⟩ : ∃ sl, slTo s c t b = sl := ⟨_, rfl⟩
      rw [hsl] at hat htt HV3
      have HSL := Lib.hid hsl
      clear hsl HL
      go_loopw [11, 12, 13] (fun v11 v12 v13 wr => ∃ lo hi : Int, v11 = .int .i64 lo ∧ v12 = .int .i64 hi ∧ Found s c bud sl b lo hi ∧ JS w B hb sh s c sl wr) (fun v11 v12 _ _ => (intOf v12 - intOf v11).toNat)
      case atStart => exact ⟨0, T + 1, rfl, rfl, ⟨Int.le_refl 0, by omega, by rw [← HSL.out, HTE.out]; exact Int.le_refl _, .inl rfl, .inl (by rw [← HSL.out, HTE.out])⟩, HV3.out⟩
      case round =>
        clear HV3
        obtain ⟨lo, hi, rfl, rfl, hFo, hL⟩ := hrel
        have HFO := Lib.hid hFo
        have HL := Lib.hid hL
        have b1 := hFo.lo0
        have b2 := hFo.lt
        have b3 := hFo.hi0
        rw [← HSL.out, HTE.out] at b3
        have hsub : wrap64 (hi - lo) = hi - lo := by unfold wrap64; omega
        have HIN := Lib.hid (And.intro b1 (And.intro b2 b3))
        clear hFo hL
        by_cases hgo : 1 < hi - lo
        · have hadd : wrap64 (lo + hi) = lo + hi := by unfold wrap64; omega
          have h0 : 0 ≤ lo + hi := by omega
          clear b1 b2 b3
          go_upto_region 10 with fail
          obtain ⟨md, hmd⟩ : ∃ md, (lo + hi).tdiv 2 = md := ⟨_, rfl⟩
          have hm2 : md = (lo + hi) / 2 := by rw [← hmd]; exact Int.tdiv_eq_ediv_of_nonneg h0
          have hin := HIN.out
          have hwm : wrap64 md = md := by unfold wrap64; omega
          rw [hmd, hwm]
          have HMB := Lib.hid (show lo < md ∧ md < hi by omega)
          have HMD := Lib.hid (show 0 ≤ md ∧ md ≤ 100000 by omega)
          clear hmd hm2 hin hwm hsub hadd h0 hgo
          by_cases hP : sumK s c (atTo s c sl md b) b * c ≤ bud
          · go_upto_region 11 with (first | (go_at_call 77; refine (hat.out _ md HMD.out _ HL.out.job).mono ?_; rintro e wn ⟨rfl, hbb⟩; have HL1 := Lib.hid (HL.out.keep hbb); clear hbb) | (go_at_call 76; refine (htt.out _ _ _ HL1.out.job).mono ?_; rintro e wq ⟨rfl, hbb⟩; have HL2 := Lib.hid (HL1.out.keep hbb); clear hbb))
            have HF := Lib.hid (show Found s c bud sl b md hi from ⟨by have := HMD.out; omega, HMB.out.2, HFO.out.hi0, .inr hP, HFO.out.high⟩)
            clear hP HFO HL HL1
            go_wp2_with fail
            go_roundw
            case rel => exact ⟨md, hi, rfl, rfl, HF.out, HL2.out⟩
            case measure => have := HMB.out; have := HIN.out; simp [intOf]; omega
          · go_upto_region 12 with (first | (go_at_call 77; refine (hat.out _ md HMD.out _ HL.out.job).mono ?_; rintro e wn ⟨rfl, hbb⟩; have HL1 := Lib.hid (HL.out.keep hbb); clear hbb) | (go_at_call 76; refine (htt.out _ _ _ HL1.out.job).mono ?_; rintro e wq ⟨rfl, hbb⟩; have HL2 := Lib.hid (HL1.out.keep hbb); clear hbb))
            have HF := Lib.hid (show Found s c bud sl b lo md from ⟨HFO.out.lo0, HMB.out.1, by have := HFO.out.hi0; have := HMB.out; omega, HFO.out.low, .inr (by unfold Fits; omega)⟩)
            clear hP HFO HL HL1
            go_wp2_with fail
            go_roundw
            case rel => exact ⟨lo, md, rfl, rfl, HF.out, HL2.out⟩
            case measure => have := HMB.out; have := HIN.out; simp [intOf]; omega
        · have hgo' : ¬ (1 < hi - lo) := hgo
          obtain rfl : hi = lo + 1 := by omega
          have HMD := Lib.hid (show 0 ≤ lo ∧ lo ≤ 100000 by omega)
          have HMD1 := Lib.hid (show 0 ≤ lo + 1 ∧ lo + 1 ≤ 100000 by omega)
          have hlo1 : wrap64 (lo + 1) = lo + 1 := by unfold wrap64; omega
          have hone : lo + 1 - lo = 1 := by omega
          rw [hone] at hsub
          clear b1 b2 b3 hgo hgo'
          obtain ⟨k0, hk0⟩ : ∃ k, atTo s c sl lo b = k := ⟨_, rfl⟩
          obtain ⟨k1, hk1⟩ : ∃ k, atTo s c sl (lo + 1) b = k := ⟨_, rfl⟩
          have HK0 := Lib.hid hk0
          have HK1 := Lib.hid hk1
          clear hk0 hk1
          go_upto_region 13 with fail
          go_upto_region 14 with (first | (go_at_call 77; refine (hat.out _ lo HMD.out _ HL.out.job).mono ?_; rintro e wn ⟨rfl, hbb⟩; rw [HK0.out]; have HL1 := Lib.hid (HL.out.keep hbb); clear hbb HL) | (go_at_call 77; refine (hat.out _ (lo + 1) HMD1.out _ HL1.out.job).mono ?_; rintro e wq ⟨rfl, hbb⟩; rw [HK1.out]; have HL2 := Lib.hid (HL1.out.keep hbb); clear hbb HL1) | (refine wpList_store_mid rfl A5 _ _ rfl wq.heap.size 0 (ag i64s 5 k0) rfl rfl ?hth ?hin ?hon ?_; (case hth => exact there_row (alloc_two _ _ _) _ (by rw [ag_size]; exact Nat.le_refl _)); (case hin => exact info5_ag _); (case hon => exact ag_one i64s 5 _)) | (refine wpList_store_mid rfl A5 _ _ rfl (wq.heap.size + 1) 0 (ag i64s 5 k1) rfl rfl ?hth2 ?hin2 ?hon2 ?_; (case hth2 => exact there_row (((only_setCells _ _ _ _).block _ (by omega)).trans (alloc_secondOf _ _ _)) _ (by rw [ag_size]; exact Nat.le_refl _)); (case hin2 => exact info5_ag _); (case hon2 => exact ag_one i64s 5 _)))
          refine cut_world (fun W => JK w B hb sh wq.heap.size (wq.heap.size + 1) s c sl k0 k1 W) (jk_new HL2.out k0 k1) ?_
          clear HL2
          intro V6 hV6
          obtain ⟨xb, hxb⟩ : ∃ xb, wq.heap.size + 1 = xb := ⟨_, rfl⟩
          rw [hxb] at hV6
          simp only [hxb]
          clear hxb
          generalize wq.heap.size = kb at *
          have HV6 := Lib.hid hV6
          have hm0 := hV6.js.m0
          have hm1 := hV6.js.m1
          clear hV6
          go_wp2_with (go_at_call 53; refine (hbn.out _).mono ?_; rintro e wr2 ⟨rfl, hbb⟩; have HV7 := Lib.hid (HV6.out.keep hbb); clear hbb)
          clear hm0 hm1 HV6
          go_loopw [16, 17, 66] (fun v16 v17 cnt wr => ∃ (bb : Nat) (k : Nat → Int), bb ≤ b ∧ cnt = .int .i64 bb ∧ JK w B hb sh kb xb s c sl k k1 wr ∧ finF s c bud b k1 (b - bb) bb k = finF s c bud b k1 b 0 k0) (fun _ _ cnt _ => b - (intOf cnt).toNat)
          case atStart => exact ⟨0, k0, by omega, rfl, HV7.out, rfl⟩
          case round =>
            clear HV7
            obtain ⟨bb, k, hbb, rfl, hL, hfin⟩ := hrel
            have HL := Lib.hid hL
            have HFI := Lib.hid hfin
            have hb0 : (0 : Int) ≤ bb := by omega
            clear hL hfin
            by_cases hlt : bb < b
            · have hlt' : (bb : Int) < b := by omega
              have hb5 : (bb : Int) < 5 := by omega
              go_upto_region 17 with fail
              clear hlt'
              go_upto_region 18 with (first | ((with_reducible refine gate_load A5 _ rfl ?_); refine load_row_g rfl A5 _ rfl kb rfl _ (ag i64s 5 k) (0, 0) _ HL.out.kk Tryd.underlying55 rfl ?hin ?_; (case hin => exact info5_ag _)) | (refine wpList_store_mid rfl A5 _ _ rfl wr.heap.size 0 (ag i64s 5 k) rfl rfl ?hth ?hin3 ?hon ?_; (case hth => exact there_row (alloc_at _ _) _ (by rw [ag_size]; exact Nat.le_refl _)); (case hin3 => exact info5_ag _); (case hon => exact ag_one i64s 5 _)))
              obtain ⟨q1, q2⟩ := k5_new wr k
              have hxs := HL.out.size
              refine cut_world (fun W => JK w B hb sh kb xb s c sl k k1 W ∧ Bx wr.heap.size A5 i64s 5 k W) ⟨HL.out.keep q1, q2⟩ ?_
              clear q1 q2 HL
              generalize wr.heap.size = mb at *
              rintro V7 ⟨hV7, hM7⟩
              have HV7 := Lib.hid hV7
              have HM7 := Lib.hid hM7
              have rn := ag_cell hV7.xx bb (by omega)
              have rm := ag_cell hM7 bb (by omega)
              have fm := (block_facts hM7).2.1 bb
              clear hV7 hM7
              go_upto_region 19 with fail
              obtain ⟨mo, hmo⟩ : ∃ mo, updI k bb (k1 bb) = mo := ⟨_, rfl⟩
              have HMO := Lib.hid hmo
              refine cut_world (fun W => JK w B hb sh kb xb s c sl k k1 W ∧ Bx mb A5 i64s 5 mo W) ⟨HV7.out.other (only_setCell _ ⟨mb, bb, none⟩ _) hxs, by rw [← hmo]; exact ag_store HM7.out bb (by omega) (k1 bb)⟩ ?_
              clear HV7 HM7 rn rm fm hmo
              rintro V8 ⟨hV8, hM8⟩
              have HL3 := Lib.hid hV8
              have HM3 := Lib.hid hM8
              clear hV8 hM8
              have hstep : finF s c bud b k1 (b - bb) bb k = if ¬ k1 bb = k bb ∧ bud < sumK s c mo b * c then k else finF s c bud b k1 (b - (bb + 1)) (bb + 1) mo := by
                rw [show b - bb = (b - (bb + 1)) + 1 from by omega, finF, HMO.out]
              by_cases hne : k1 bb = k bb
              · have heq := fun w => eq5_yes mo k (fun j hj => by rw [← HMO.out]; unfold updI; split; (rename_i e; rw [e, hne]); rfl) w
                rw [if_neg (by intro h; exact h.1 hne)] at hstep
                have HFN := Lib.hid (hstep.symm.trans HFI.out)
                clear hstep hne
                go_upto_region 20 with (first | ((with_reducible refine gate_load A5 _ rfl ?_); first | (refine load_row_g rfl A5 _ rfl kb rfl _ (ag i64s 5 k) (0, 0) _ HL3.out.kk Tryd.underlying55 rfl ?hin ?_; (case hin => exact info5_ag _)) | (refine load_row_g rfl A5 _ rfl mb rfl _ (ag i64s 5 mo) (0, 0) _ HM3.out Tryd.underlying55 rfl ?hin ?_; (case hin => exact info5_ag _)) | (refine load_row_g rfl A5 _ rfl mb rfl _ (ag i64s 5 mo) (0, 0) _ HM4.out Tryd.underlying55 rfl ?hin ?_; (case hin => exact info5_ag _))) | (go_at_call 76; refine (htt.out _ _ _ HL3.out.js.job).mono ?_; rintro e wq ⟨rfl, hbq⟩; have HL4 := Lib.hid (HL3.out.keep hbq); have HM4 := Lib.hid (HM3.out.keep hbq); clear hbq HL3 HM3))
                clear heq
                go_upto_region 21 with (first | ((with_reducible refine gate_load A5 _ rfl ?_); refine load_row_g rfl A5 _ rfl mb rfl _ (ag i64s 5 mo) (0, 0) _ HM3.out Tryd.underlying55 rfl ?hin ?_; (case hin => exact info5_ag _)) | (refine wpList_store_mid rfl A5 _ _ rfl kb 0 (ag i64s 5 mo) rfl rfl ?hth ?hin3 ?hon ?_; (case hth => exact there_row HL3.out.kk _ (by rw [ag_size, ag_size]; exact Nat.le_refl _)); (case hin3 => exact info5_ag _); (case hon => exact ag_one i64s 5 _)))
                refine cut_world (fun W => JK w B hb sh kb xb s c sl mo k1 W) (HL3.out.onlyK (only_setCells _ _ _ _) (cells_all HL3.out.kk (N := 5) (ag_size _ _ _) (ag_size _ _ _))) ?_
                clear HL3 HM3
                intro V9 hV9
                have HV9 := Lib.hid hV9
                clear hV9
                go_wp2_with fail
                go_roundw
                case rel => exact ⟨bb + 1, mo, by omega, rfl, HV9.out, HFN.out⟩
                case measure => simp [intOf]; omega
              · have heq := fun w => eq5_no mo k bb (by omega) (by rw [← HMO.out]; unfold updI; rw [if_pos rfl]; exact hne) w
                by_cases hov : bud < sumK s c mo b * c
                · rw [if_pos ⟨hne, hov⟩] at hstep
                  have HRES := Lib.hid ((hstep.symm.trans HFI.out).symm)
                  clear hstep hne
                  go_upto_region 22 with (first | ((with_reducible refine gate_load A5 _ rfl ?_); first | (refine load_row_g rfl A5 _ rfl kb rfl _ (ag i64s 5 k) (0, 0) _ HL3.out.kk Tryd.underlying55 rfl ?hin ?_; (case hin => exact info5_ag _)) | (refine load_row_g rfl A5 _ rfl mb rfl _ (ag i64s 5 mo) (0, 0) _ HM3.out Tryd.underlying55 rfl ?hin ?_; (case hin => exact info5_ag _)) | (refine load_row_g rfl A5 _ rfl mb rfl _ (ag i64s 5 mo) (0, 0) _ HM4.out Tryd.underlying55 rfl ?hin ?_; (case hin => exact info5_ag _))) | (go_at_call 76; refine (htt.out _ _ _ HL3.out.js.job).mono ?_; rintro e wq ⟨rfl, hbq⟩; have HL4 := Lib.hid (HL3.out.keep hbq); have HM4 := Lib.hid (HM3.out.keep hbq); clear hbq HL3 HM3))
                  clear heq hov
                  go_wp2_with (first | ((with_reducible refine gate_load A5 _ rfl ?_); refine load_row_g rfl A5 _ rfl kb rfl _ (ag i64s 5 k) (0, 0) _ HL4.out.kk Tryd.underlying55 rfl ?hin ?_; (case hin => exact info5_ag _)) | (refine wpList_store_mid rfl A5 _ _ rfl (B + 1) 0 (ag i64s 5 k) rfl rfl ?hth ?hin3 ?hon ?_; (case hth => exact there_row HL4.out.js.rb _ (by rw [ag_size, ag_size]; exact Nat.le_refl _)); (case hin3 => exact info5_ag _); (case hon => exact ag_one i64s 5 _)))
                  have q1 := cells_all HL4.out.js.rb (N := 5) (ag_size _ _ _) (cs := ag i64s 5 k) (ag_size _ _ _)
                  have hfinb := (only_setCells _ (B + 1) 0 (ag i64s 5 k).toList).below HL4.out.js.below (by omega)
                  refine bodyPost_ret (v := .agg (ag i64s 5 k)) ?_ rfl ⟨lo, by rw [HSL.out]; exact HFO.out, ?_, by rw [HBd.out]; exact hfinb⟩
                  · exact results_cell_row rfl _ _ (B + 1) _ _ _ _ rfl q1 Tryd.underlying55 rfl (info5_ag _)
                  · rw [HSL.out, HK0.out, HK1.out, HRES.out]
                · rw [if_neg (by intro h; exact hov h.2)] at hstep
                  have HFN := Lib.hid (hstep.symm.trans HFI.out)
                  clear hstep hne
                  go_upto_region 20 with (first | ((with_reducible refine gate_load A5 _ rfl ?_); first | (refine load_row_g rfl A5 _ rfl kb rfl _ (ag i64s 5 k) (0, 0) _ HL3.out.kk Tryd.underlying55 rfl ?hin ?_; (case hin => exact info5_ag _)) | (refine load_row_g rfl A5 _ rfl mb rfl _ (ag i64s 5 mo) (0, 0) _ HM3.out Tryd.underlying55 rfl ?hin ?_; (case hin => exact info5_ag _)) | (refine load_row_g rfl A5 _ rfl mb rfl _ (ag i64s 5 mo) (0, 0) _ HM4.out Tryd.underlying55 rfl ?hin ?_; (case hin => exact info5_ag _))) | (go_at_call 76; refine (htt.out _ _ _ HL3.out.js.job).mono ?_; rintro e wq ⟨rfl, hbq⟩; have HL4 := Lib.hid (HL3.out.keep hbq); have HM4 := Lib.hid (HM3.out.keep hbq); clear hbq HL3 HM3))
                  clear heq hov
                  go_upto_region 21 with (first | ((with_reducible refine gate_load A5 _ rfl ?_); refine load_row_g rfl A5 _ rfl mb rfl _ (ag i64s 5 mo) (0, 0) _ HM4.out Tryd.underlying55 rfl ?hin ?_; (case hin => exact info5_ag _)) | (refine wpList_store_mid rfl A5 _ _ rfl kb 0 (ag i64s 5 mo) rfl rfl ?hth ?hin3 ?hon ?_; (case hth => exact there_row HL4.out.kk _ (by rw [ag_size, ag_size]; exact Nat.le_refl _)); (case hin3 => exact info5_ag _); (case hon => exact ag_one i64s 5 _)))
                  refine cut_world (fun W => JK w B hb sh kb xb s c sl mo k1 W) (HL4.out.onlyK (only_setCells _ _ _ _) (cells_all HL4.out.kk (N := 5) (ag_size _ _ _) (ag_size _ _ _))) ?_
                  clear HL4 HM4
                  intro V9 hV9
                  have HV9 := Lib.hid hV9
                  clear hV9
                  go_wp2_with fail
                  go_roundw
                  case rel => exact ⟨bb + 1, mo, by omega, rfl, HV9.out, HFN.out⟩
                  case measure => simp [intOf]; omega
            · have hlt' : ¬ (bb : Int) < b := by omega
              obtain rfl : bb = b := by omega
              have HRES := Lib.hid (show finF s c bud bb k1 bb 0 k0 = k by have := HFI.out; rw [Nat.sub_self] at this; exact this.symm)
              clear hlt
              go_upto_region 22 with fail
              clear hlt'
              go_wp2_with (first | ((with_reducible refine gate_load A5 _ rfl ?_); refine load_row_g rfl A5 _ rfl kb rfl _ (ag i64s 5 k) (0, 0) _ HL.out.kk Tryd.underlying55 rfl ?hin ?_; (case hin => exact info5_ag _)) | (refine wpList_store_mid rfl A5 _ _ rfl (B + 1) 0 (ag i64s 5 k) rfl rfl ?hth ?hin3 ?hon ?_; (case hth => exact there_row HL.out.js.rb _ (by rw [ag_size, ag_size]; exact Nat.le_refl _)); (case hin3 => exact info5_ag _); (case hon => exact ag_one i64s 5 _)))
              have q1 := cells_all HL.out.js.rb (N := 5) (ag_size _ _ _) (cs := ag i64s 5 k) (ag_size _ _ _)
              have hfinb := (only_setCells _ (B + 1) 0 (ag i64s 5 k).toList).below HL.out.js.below (by omega)
              refine bodyPost_ret (v := .agg (ag i64s 5 k)) ?_ rfl ⟨lo, by rw [HSL.out]; exact HFO.out, ?_, by rw [HBd.out]; exact hfinb⟩
              · exact results_cell_row rfl _ _ (B + 1) _ _ _ _ rfl q1 Tryd.underlying55 rfl (info5_ag _)
              · rw [HSL.out, HK0.out, HK1.out, HRES.out]
end Go.Proofs.YtcibajleknhklaaDoor
end

section
namespace Go.Proofs.YtcibajleknhklaaDoor
open Go.RowKit Go.Vec Go.Cost
set_option linter.unusedSimpArgs false
set_option linter.unusedVariables false
/-- Fuel that is left ahead of a level and a band. -/
def FL (nb L b : Nat) : Nat := (3000 - L) * (nb + 1) + (nb - b) + 1
theorem run_skip {t bud c : Int} {nb L b : Nat} {l : List Int} {s : Int} (hb : b < nb) (h : ¬(l.getD b 0 < capF (widL.getD b 0) ∧ lev t b l = L)) : runI t bud c nb (FL nb L b) L b l s = runI t bud c nb (FL nb L (b + 1)) L (b + 1) l s := by
  have e : FL nb L b = FL nb L (b + 1) + 1 := by unfold FL; omega
  rw [e]
  simp only [runI]
  rw [if_pos hb, if_neg h]
theorem run_stop {t bud c : Int} {nb L b : Nat} {l : List Int} {s : Int} (hb : b < nb) (h : l.getD b 0 < capF (widL.getD b 0) ∧ lev t b l = L) (hs : bud < s + more c b l) : runI t bud c nb (FL nb L b) L b l s = l := by
  have e : FL nb L b = FL nb L (b + 1) + 1 := by unfold FL; omega
  rw [e]
  simp only [runI]
  rw [if_pos hb, if_pos h, if_pos hs]
theorem run_go {t bud c : Int} {nb L b : Nat} {l : List Int} {s : Int} (hb : b < nb) (h : l.getD b 0 < capF (widL.getD b 0) ∧ lev t b l = L) (hs : ¬bud < s + more c b l) : runI t bud c nb (FL nb L b) L b l s = runI t bud c nb (FL nb L (b + 1)) L (b + 1) (inc b l) (s + more c b l) := by
  have e : FL nb L b = FL nb L (b + 1) + 1 := by unfold FL; omega
  rw [e]
  simp only [runI]
  rw [if_pos hb, if_pos h, if_neg hs]
theorem run_next {t bud c : Int} {nb L : Nat} {l : List Int} {s : Int} (hL : L < 3000) : runI t bud c nb (FL nb L nb) L nb l s = runI t bud c nb (FL nb (L + 1) 0) ((L + 1 : Nat) : Int) 0 l s := by
  have e : FL nb L nb = FL nb (L + 1) 0 + 1 := by
    unfold FL
    obtain ⟨d, hd⟩ : ∃ d, 3000 - L = d + 1 := ⟨3000 - L - 1, by omega⟩
    rw [show 3000 - (L + 1) = d by omega, hd, Nat.add_mul]
    omega
  rw [e]
  simp only [runI]
  rw [if_neg (by omega), if_pos (by omega)]
  rfl
theorem run_start {s c : Int} (hR : RightP s c) (t bud : Int) (nb : Nat) (hnb : bandsF s c = nb) : runI t bud c nb (FL nb 1 0) ((1 : Nat) : Int) 0 [0, 0, 0, 0, 0] 0 = allocF s c t bud := by
  have hbd := bandsF_bd s c
  have h := run_eq hR t bud nb hnb (FL nb 1 0) 161 1 0 [0, 0, 0, 0, 0] (by omega) (by omega) (by omega) ?_ (fit_zero s c) ?_ (by simp [sum5])
  · rw [total_zero s c hR] at h
    exact h
  · unfold FL
    have e : ((3000 : Int) - 1).toNat = 2999 := rfl
    rw [e]
    omega
  · intro j hj hcj
    have hj5 : j < 5 := by omega
    have hp := slopeR_pos t j hj5
    have e : ([0, 0, 0, 0, 0] : List Int).getD j 0 = 0 := by
      have : j = 0 ∨ j = 1 ∨ j = 2 ∨ j = 3 ∨ j = 4 := by omega
      rcases this with rfl | rfl | rfl | rfl | rfl <;> rfl
    have e1 : lev t j [0, 0, 0, 0, 0] = slopeR t j := by unfold lev; rw [e]; omega
    rw [e1]
    by_cases e2 : slopeR t j = 1
    · exact .inr ⟨e2, by omega⟩
    · exact .inl (by omega)
/-- Five numbers as a list. -/
def L5 (f : Nat → Int) : List Int := [f 0, f 1, f 2, f 3, f 4]
theorem L5_at (f : Nat → Int) (j : Nat) (hj : j < 5) : (L5 f).getD j 0 = f j := by
  rcases (show j = 0 ∨ j = 1 ∨ j = 2 ∨ j = 3 ∨ j = 4 by omega) with h | h | h | h | h <;> subst h <;> rfl
theorem L5_ext (f g : Nat → Int) (h : ∀ j, j < 5 → f j = g j) : L5 f = L5 g := by
  unfold L5; rw [h 0 (by omega), h 1 (by omega), h 2 (by omega), h 3 (by omega), h 4 (by omega)]
theorem L5_inc (f : Nat → Int) (b : Nat) (hb : b < 5) : inc b (L5 f) = L5 (updI f b (f b + 1)) := by
  unfold inc
  rw [L5_at f b hb]
  rcases (show b = 0 ∨ b = 1 ∨ b = 2 ∨ b = 3 ∨ b = 4 by omega) with h | h | h | h | h <;> subst h <;> rfl
theorem ag_L5 (f : Nat → Int) : Value.agg (ag i64s 5 f) = aggOf (L5 f) := rfl
theorem sumK_ext (s c : Int) (f g : Nat → Int) : ∀ n : Nat, (∀ j, j < n → f j = g j) → sumK s c f n = sumK s c g n
  | 0, _ => rfl
  | n + 1, h => by rw [sumK, sumK, sumK_ext s c f g n (fun j hj => h j (by omega)), h n (by omega)]
theorem sumK_upd (s c : Int) (k : Nat → Int) (b : Nat) (x : Int) : ∀ n : Nat, b < n → sumK s c (updI k b x) n = sumK s c k n + bitsF (widthF s c b) x - bitsF (widthF s c b) (k b)
  | 0, h => absurd h (by omega)
  | n + 1, h => by
    rw [sumK, sumK]
    by_cases e : b = n
    · subst e
      rw [sumK_ext s c (updI k b x) k b (fun j hj => by unfold updI; rw [if_neg (by omega)])]
      unfold updI
      rw [if_pos rfl]
      omega
    · rw [sumK_upd s c k b x n (by omega)]
      have : updI k b x n = k n := by unfold updI; rw [if_neg (by omega)]
      rw [this]
      omega
theorem bits_up : ∀ i : Fin 5, ∀ a : Fin 33, (a.val : Int) < capF (widL.getD i.val 0) → bitsF (widL.getD i.val 0) (a.val : Int) ≤ bitsF (widL.getD i.val 0) ((a.val : Int) + 1) := by decide +kernel
theorem bits_upI (b : Nat) (hb : b < 5) (a : Int) (h0 : 0 ≤ a) (h : a < capF (widL.getD b 0)) : bitsF (widL.getD b 0) a ≤ bitsF (widL.getD b 0) (a + 1) := by
  have h32 := (capF_bd (widL.getD b 0)).2
  have := bits_up ⟨b, hb⟩ ⟨a.toNat, by omega⟩
  simp only [Int.toNat_of_nonneg h0] at this
  exact this h
/-- One level on: a band gets one pulse more just if its next level is this one. -/
theorem at_step (L q cp : Int) (hq : 1 ≤ q) (hL : 1 ≤ L) : (min ((L - 1) / q) cp < cp ∧ (min ((L - 1) / q) cp + 1) * q = L → min (L / q) cp = min ((L - 1) / q) cp + 1) ∧
    (¬ (min ((L - 1) / q) cp < cp ∧ (min ((L - 1) / q) cp + 1) * q = L) → min (L / q) cp = min ((L - 1) / q) cp) := by
  have a1 : (L - 1) / q * q ≤ L - 1 := Int.ediv_mul_le _ (by omega)
  have a2 : L - 1 < ((L - 1) / q + 1) * q := Int.lt_ediv_add_one_mul_self _ (by omega)
  have b1 : L / q * q ≤ L := Int.ediv_mul_le _ (by omega)
  have b2 : L < (L / q + 1) * q := Int.lt_ediv_add_one_mul_self _ (by omega)
  have c1 : (L - 1) / q ≤ L / q := Int.ediv_le_ediv (by omega) (by omega)
  generalize (L - 1) / q = d at *
  generalize L / q = e at *
  rw [Int.add_mul, Int.one_mul] at a2 b2
  have c2 : e ≤ d + 1 := by
    by_cases h : e ≤ d + 1
    · exact h
    · have : (d + 2) * q ≤ e * q := Int.mul_le_mul_of_nonneg_right (by omega) (by omega)
      rw [Int.add_mul] at this
      omega
  constructor
  · rintro ⟨h1, h2⟩
    have hm : min d cp = d := by omega
    rw [hm, Int.add_mul, Int.one_mul] at h2
    have : e = d + 1 := by
      by_cases h : e = d
      · subst h; omega
      · omega
    omega
  · intro h
    by_cases h1 : d < cp
    · have hm : min d cp = d := by omega
      rw [hm] at h
      have h2 : ¬ (d + 1) * q = L := fun h3 => h ⟨h1, h3⟩
      rw [Int.add_mul, Int.one_mul] at h2
      have : e = d := by
        by_cases h3 : e = d + 1
        · subst h3
          rw [Int.add_mul, Int.one_mul] at b1
          omega
        · omega
      omega
    · omega
theorem run_over {t bud c : Int} {nb : Nat} (hnb : nb ≤ 5) (hc : 1 ≤ c) {l : List Int} (hl : ∀ j, j < 5 → 0 ≤ l.getD j 0) : ∀ (F : Nat) (lv : Int) (b : Nat) (s : Int), bud < s → runI t bud c nb F lv b l s = l
  | 0, _, _, _, _ => rfl
  | F + 1, lv, b, s, hs => by
    simp only [runI]
    by_cases hb : b < nb
    · rw [if_pos hb]
      by_cases hf : l.getD b 0 < capF (widL.getD b 0) ∧ lev t b l = lv
      · have h1 := bits_upI b (by omega) (l.getD b 0) (hl b (by omega)) hf.1
        have hm : 0 ≤ more c b l := Int.mul_nonneg (by omega) (by omega)
        rw [if_pos hf, if_pos (by omega)]
      · rw [if_neg hf]
        exact run_over hnb hc hl F lv (b + 1) s hs
    · rw [if_neg hb]
      by_cases h3 : lv < 3000
      · rw [if_pos h3]
        exact run_over hnb hc hl F (lv + 1) 0 s hs
      · rw [if_neg h3]
theorem run_full {t bud c : Int} {nb : Nat} {l : List Int} (hl : ∀ j, j < nb → capF (widL.getD j 0) ≤ l.getD j 0) : ∀ (F : Nat) (lv : Int) (b : Nat) (s : Int), runI t bud c nb F lv b l s = l
  | 0, _, _, _ => rfl
  | F + 1, lv, b, s => by
    simp only [runI]
    by_cases hb : b < nb
    · have := hl b hb
      rw [if_pos hb, if_neg (by omega)]
      exact run_full hl F lv (b + 1) s
    · rw [if_neg hb]
      by_cases h3 : lv < 3000
      · rw [if_pos h3]
        exact run_full hl F (lv + 1) 0 s
      · rw [if_neg h3]
section
variable {s c t bud : Int} {nb : Nat} (hR : RightP s c) (hnb : bandsF s c = nb)
/-- Midway through a level. -/
def mid (s c t : Int) (nb L b : Nat) : Nat → Int := fun j => if j < b then atTo s c (slTo s c t nb) (L : Int) nb j else atTo s c (slTo s c t nb) ((L : Int) - 1) nb j
theorem mid_succ (L b : Nat) : mid s c t nb L (b + 1) = updI (mid s c t nb L b) b (atTo s c (slTo s c t nb) (L : Int) nb b) := by
  funext j
  unfold updI mid
  by_cases e : j = b
  · rw [if_pos e, if_pos (by omega), e]
  · rw [if_neg e]
    by_cases e2 : j < b
    · rw [if_pos e2, if_pos (by omega)]
    · rw [if_neg e2, if_neg (by omega)]
theorem mid_all (L j : Nat) (hj : j < 5) : mid s c t nb L nb j = atTo s c (slTo s c t nb) (L : Int) nb j := by
  unfold mid
  by_cases h : j < nb
  · rw [if_pos h]
  · rw [if_neg h]
    unfold atTo
    rw [if_neg h, if_neg h]
include hnb in
theorem at_val (lv : Int) (b : Nat) (hb : b < nb) : atTo s c (slTo s c t nb) lv nb b = min (lv / slopeR t b) (capF (widL.getD b 0)) := by
  have hB : (b : Int) < bandsF s c := by omega
  unfold atTo atF slTo
  rw [if_pos hb, if_pos hb, width_in hB, slopeR_eq s c t b hB]
include hnb in
/-- What a band's turn comes to. -/
theorem mid_step (L b : Nat) (hL : 1 ≤ L) (hb : b < nb) :
    (mid s c t nb L b b < capF (widL.getD b 0) ∧ (mid s c t nb L b b + 1) * slopeR t b = L → atTo s c (slTo s c t nb) (L : Int) nb b = mid s c t nb L b b + 1) ∧
    (¬ (mid s c t nb L b b < capF (widL.getD b 0) ∧ (mid s c t nb L b b + 1) * slopeR t b = L) → atTo s c (slTo s c t nb) (L : Int) nb b = mid s c t nb L b b) ∧ 0 ≤ mid s c t nb L b b := by
  have h5 := bandsF_bd s c
  have hq := slopeR_pos t b (by omega)
  have hm : mid s c t nb L b b = min (((L : Int) - 1) / slopeR t b) (capF (widL.getD b 0)) := by
    unfold mid
    rw [if_neg (by omega), at_val hnb _ b hb]
  have hw := capF_w s c b nb hnb hb
  rw [width_in (show (b : Int) < bandsF s c by omega)] at hw
  rw [hm, at_val hnb _ b hb]
  have h := at_step L (slopeR t b) (capF (widL.getD b 0)) hq.1 (by omega)
  refine ⟨h.1, h.2, ?_⟩
  have : 0 ≤ ((L : Int) - 1) / slopeR t b := Int.ediv_nonneg (by omega) (by omega)
  omega
include hR hnb in
theorem mid_sum (L b : Nat) (hL : 1 ≤ L) (hb : b < nb) (hf : mid s c t nb L b b < capF (widL.getD b 0) ∧ (mid s c t nb L b b + 1) * slopeR t b = L) :
    sumK s c (mid s c t nb L (b + 1)) nb * c = sumK s c (mid s c t nb L b) nb * c + more c b (L5 (mid s c t nb L b)) ∧ 0 ≤ more c b (L5 (mid s c t nb L b)) := by
  have h5 := bandsF_bd s c
  obtain ⟨h1, h2, h3⟩ := mid_step (t := t) hnb L b hL hb
  have hw : widthF s c b = widL.getD b 0 := width_in (by omega)
  rw [mid_succ, sumK_upd s c _ b _ nb hb, h1 hf, hw]
  have hm : more c b (L5 (mid s c t nb L b)) = c * (bitsF (widL.getD b 0) (mid s c t nb L b b + 1) - bitsF (widL.getD b 0) (mid s c t nb L b b)) := by
    unfold more
    rw [L5_at _ b (by omega)]
  have hup := bits_upI b (by omega) _ h3 hf.1
  have hc : 1 ≤ c ∧ c ≤ 2 := by unfold RightP at hR; omega
  rw [hm]
  refine ⟨?_, Int.mul_nonneg (by omega) (by omega)⟩
  rw [Int.mul_comm c, ← Int.add_mul]
  congr 1
  omega
include hnb in
theorem mid_same (L b : Nat) (hL : 1 ≤ L) (hb : b < nb) (hf : ¬ (mid s c t nb L b b < capF (widL.getD b 0) ∧ (mid s c t nb L b b + 1) * slopeR t b = L)) : mid s c t nb L (b + 1) = mid s c t nb L b := by
  obtain ⟨h1, h2, h3⟩ := mid_step (t := t) hnb L b hL hb
  rw [mid_succ, h2 hf]
  funext j
  unfold updI
  split
  · rename_i e; rw [e]
  · rfl
include hR hnb in
theorem mid_up (L : Nat) (hL : 1 ≤ L) : ∀ (d b : Nat), b + d = nb → sumK s c (mid s c t nb L b) nb * c ≤ sumK s c (mid s c t nb L nb) nb * c
  | 0, b, h => by rw [show b = nb from by omega]; exact Int.le_refl _
  | d + 1, b, h => by
    have ih := mid_up L hL d (b + 1) (by omega)
    by_cases hf : mid s c t nb L b b < capF (widL.getD b 0) ∧ (mid s c t nb L b b + 1) * slopeR t b = L
    · have := mid_sum (t := t) hR hnb L b hL (by omega) hf
      omega
    · rw [mid_same hnb L b hL (by omega) hf] at ih
      exact ih
theorem sum_all (L : Nat) (hn5 : nb ≤ 5) : sumK s c (mid s c t nb L nb) nb = sumK s c (atTo s c (slTo s c t nb) (L : Int) nb) nb := sumK_ext s c _ _ nb fun j hj => mid_all L j (by omega)
theorem sum_none (L : Nat) : mid s c t nb L 0 = atTo s c (slTo s c t nb) ((L : Int) - 1) nb := by
  funext j
  unfold mid
  rw [if_neg (by omega)]
include hnb in
theorem fire_iff (L b : Nat) (hb : b < nb) : ((L5 (mid s c t nb L b)).getD b 0 < capF (widL.getD b 0) ∧ lev t b (L5 (mid s c t nb L b)) = L) ↔ (mid s c t nb L b b < capF (widL.getD b 0) ∧ (mid s c t nb L b b + 1) * slopeR t b = L) := by
  have h5 := bandsF_bd s c
  unfold lev
  rw [L5_at _ b (by omega)]
include hR hnb in
/-- A level all of whose pulses fit. -/
theorem run_level (L : Nat) (hL : 1 ≤ L) (hfit : sumK s c (atTo s c (slTo s c t nb) (L : Int) nb) nb * c ≤ bud) : ∀ b, b ≤ nb →
    runI t bud c nb (FL nb L 0) L 0 (L5 (mid s c t nb L 0)) (sumK s c (mid s c t nb L 0) nb * c) = runI t bud c nb (FL nb L b) L b (L5 (mid s c t nb L b)) (sumK s c (mid s c t nb L b) nb * c)
  | 0, _ => rfl
  | b + 1, h => by
    have h5 := bandsF_bd s c
    rw [run_level L hL hfit b (by omega)]
    have hb : b < nb := by omega
    have hup := mid_up (t := t) hR hnb L hL (nb - (b + 1)) (b + 1) (by omega)
    rw [sum_all L (by omega)] at hup
    by_cases hf : mid s c t nb L b b < capF (widL.getD b 0) ∧ (mid s c t nb L b b + 1) * slopeR t b = L
    · obtain ⟨e1, e2⟩ := mid_sum (t := t) hR hnb L b hL hb hf
      rw [run_go hb ((fire_iff hnb L b hb).2 hf) (by omega), ← e1, L5_inc _ b (by omega), mid_succ, (mid_step hnb L b hL hb).1 hf]
    · rw [run_skip hb (fun h => hf ((fire_iff hnb L b hb).1 h)), mid_same hnb L b hL hb hf]
include hR hnb in
theorem run_up (L : Nat) (hL : 1 ≤ L) (hL3 : L < 3000) (hfit : sumK s c (atTo s c (slTo s c t nb) (L : Int) nb) nb * c ≤ bud) :
    runI t bud c nb (FL nb L 0) L 0 (L5 (atTo s c (slTo s c t nb) ((L : Int) - 1) nb)) (sumK s c (atTo s c (slTo s c t nb) ((L : Int) - 1) nb) nb * c) =
    runI t bud c nb (FL nb (L + 1) 0) ((L + 1 : Nat) : Int) 0 (L5 (atTo s c (slTo s c t nb) (L : Int) nb)) (sumK s c (atTo s c (slTo s c t nb) (L : Int) nb) nb * c) := by
  have h5 := bandsF_bd s c
  have h := run_level hR hnb L hL hfit nb (Nat.le_refl _)
  rw [sum_all L (by omega), sum_none, run_next hL3] at h
  rw [h, L5_ext _ _ (fun j hj => mid_all L j hj)]
include hR hnb in
theorem at_mono (L : Nat) (hL : 1 ≤ L) : sumK s c (atTo s c (slTo s c t nb) ((L : Int) - 1) nb) nb * c ≤ sumK s c (atTo s c (slTo s c t nb) (L : Int) nb) nb * c := by
  have h5 := bandsF_bd s c
  have h := mid_up (t := t) hR hnb L hL nb 0 (by omega)
  rwa [sum_all L (by omega), sum_none] at h
include hnb in
theorem at_zero (j : Nat) : atTo s c (slTo s c t nb) 0 nb j = 0 := by
  by_cases hj : j < nb
  · rw [at_val hnb 0 j hj, Int.zero_ediv]
    have hw := capF_w s c j nb hnb hj
    rw [width_in (show (j : Int) < bandsF s c by omega)] at hw
    omega
  · unfold atTo; rw [if_neg hj]
theorem sum_zero (s c : Int) (k : Nat → Int) (nb : Nat) (hnb : bandsF s c = nb) (hk : ∀ j, k j = 0) : ∀ n : Nat, n ≤ nb → sumK s c k n = 0
  | 0, _ => rfl
  | n + 1, h => by
    have hw := capF_w s c n nb hnb (by omega)
    have hb : bitsF (widthF s c n) 0 = 0 := by
      unfold bitsF
      rw [if_pos ⟨Int.le_refl 0, by omega⟩]
      rfl
    rw [sumK, sum_zero s c k nb hnb hk n (by omega), hk n, hb]
    rfl
include hR hnb in
/-- The levels up to one all of whose pulses fit. -/
theorem run_to (lo : Nat) (hlo : lo < 2999) (hfit : lo = 0 ∨ sumK s c (atTo s c (slTo s c t nb) (lo : Int) nb) nb * c ≤ bud) :
    allocF s c t bud = runI t bud c nb (FL nb (lo + 1) 0) ((lo + 1 : Nat) : Int) 0 (L5 (atTo s c (slTo s c t nb) (lo : Int) nb)) (sumK s c (atTo s c (slTo s c t nb) (lo : Int) nb) nb * c) := by
  rw [← run_start hR t bud nb hnb]
  induction lo with
  | zero =>
    have e0 : L5 (atTo s c (slTo s c t nb) ((0 : Nat) : Int) nb) = [0, 0, 0, 0, 0] := by
      unfold L5
      rw [show ((0 : Nat) : Int) = 0 from rfl, at_zero hnb, at_zero hnb, at_zero hnb, at_zero hnb, at_zero hnb]
    have hz : sumK s c (atTo s c (slTo s c t nb) ((0 : Nat) : Int) nb) nb = 0 := sum_zero s c _ nb hnb (fun j => at_zero hnb j) nb (Nat.le_refl _)
    rw [e0, hz, Int.zero_mul]
  | succ n ih =>
    have hf : sumK s c (atTo s c (slTo s c t nb) ((n + 1 : Nat) : Int) nb) nb * c ≤ bud := by
      rcases hfit with h | h
      · omega
      · exact h
    have hm := at_mono (t := t) hR hnb (n + 1) (by omega)
    have e1 : (((n + 1 : Nat) : Int) - 1) = (n : Int) := by omega
    rw [e1] at hm
    have h := run_up hR hnb (t := t) (bud := bud) (n + 1) (by omega) (by omega) hf
    rw [e1] at h
    rw [ih (by omega) (.inr (by omega)), h]
include hR hnb in
/-- The level that does not fit whole, band by band. -/
theorem run_fin (L : Nat) (hL : 1 ≤ L)
    (hE : (sumK s c (mid s c t nb L nb) nb * c ≤ bud ∨ mid s c t nb L nb = mid s c t nb L 0) → runI t bud c nb (FL nb L nb) L nb (L5 (mid s c t nb L nb)) (sumK s c (mid s c t nb L nb) nb * c) = L5 (mid s c t nb L nb)) :
    ∀ (d b : Nat), b + d = nb → (sumK s c (mid s c t nb L b) nb * c ≤ bud ∨ mid s c t nb L b = mid s c t nb L 0) →
    runI t bud c nb (FL nb L b) L b (L5 (mid s c t nb L b)) (sumK s c (mid s c t nb L b) nb * c) = L5 (finF s c bud nb (atTo s c (slTo s c t nb) (L : Int) nb) d b (mid s c t nb L b))
  | 0, b, h, hi => by
    obtain rfl : b = nb := by omega
    exact hE hi
  | d + 1, b, h, hi => by
    have h5 := bandsF_bd s c
    have hb : b < nb := by omega
    have hst := mid_step (t := t) hnb L b hL hb
    rw [finF]
    by_cases hf : mid s c t nb L b b < capF (widL.getD b 0) ∧ (mid s c t nb L b b + 1) * slopeR t b = L
    · obtain ⟨e1, e2⟩ := mid_sum (t := t) hR hnb L b hL hb hf
      have hne : ¬ atTo s c (slTo s c t nb) (L : Int) nb b = mid s c t nb L b b := by rw [hst.1 hf]; omega
      have e3 : sumK s c (updI (mid s c t nb L b) b (atTo s c (slTo s c t nb) (L : Int) nb b)) nb * c = sumK s c (mid s c t nb L b) nb * c + more c b (L5 (mid s c t nb L b)) := by rw [← mid_succ]; exact e1
      by_cases ho : bud < sumK s c (mid s c t nb L b) nb * c + more c b (L5 (mid s c t nb L b))
      · rw [run_stop hb ((fire_iff hnb L b hb).2 hf) ho, if_pos ⟨hne, by rw [e3]; exact ho⟩]
      · rw [run_go hb ((fire_iff hnb L b hb).2 hf) ho, if_neg (by rw [e3]; intro hh; exact ho hh.2), ← e1, L5_inc _ b (by omega), ← hst.1 hf, ← mid_succ]
        exact run_fin L hL hE d (b + 1) (by omega) (.inl (by omega))
    · have hsm := mid_same hnb L b hL hb hf
      rw [run_skip hb (fun h => hf ((fire_iff hnb L b hb).1 h)), if_neg (by rw [hst.2.1 hf]; intro hh; exact hh.1 rfl), ← mid_succ, hsm]
      have := run_fin L hL hE d (b + 1) (by omega) (by rw [hsm]; exact hi)
      rw [hsm] at this
      exact this
include hR hnb in
/-- What the search comes to is what layer 14 gives. -/
theorem found_alloc (lo : Int) (h : Found s c bud (slTo s c t nb) nb lo (lo + 1)) :
    L5 (finF s c bud nb (atTo s c (slTo s c t nb) (lo + 1) nb) nb 0 (atTo s c (slTo s c t nb) lo nb)) = allocF s c t bud := by
  have h5 := bandsF_bd s c
  have hc : 1 ≤ c ∧ c ≤ 2 := by unfold RightP at hR; omega
  have htb := topTo_bd s c (slTo s c t nb) nb hnb (slTo_in s c t nb hnb) nb (Nat.le_refl _)
  have h1 := h.lo0
  have h3 := h.hi0
  obtain ⟨n, rfl⟩ := Int.eq_ofNat_of_zero_le h1
  have hn : n < 2999 := by omega
  have hfit : n = 0 ∨ sumK s c (atTo s c (slTo s c t nb) (n : Int) nb) nb * c ≤ bud := by
    rcases h.low with h | h
    · left; omega
    · right; exact h
  rw [run_to hR hnb n hn hfit]
  have e1 : (((n + 1 : Nat) : Int) - 1) = (n : Int) := by omega
  have em : mid s c t nb (n + 1) 0 = atTo s c (slTo s c t nb) (n : Int) nb := by rw [sum_none, e1]
  have h0 : mid s c t nb (n + 1) 0 = mid s c t nb (n + 1) 0 := rfl
  have key := run_fin (t := t) (bud := bud) hR hnb (n + 1) (by omega) ?_ nb 0 (by omega) (.inr rfl)
  · rw [em] at key
    rw [key]
    rfl
  · intro hi
    rcases h.high with ht | hno
    · refine run_full (fun j hj => ?_) _ _ _ _
      rw [L5_at _ j (by omega), mid_all _ j (by omega), at_val hnb _ j hj]
      have hq := slopeR_pos t j (by omega)
      have hB : (j : Int) < bandsF s c := by omega
      have htj : slopeR t j * capF (widL.getD j 0) ≤ topTo s c (slTo s c t nb) nb := by
        have : ∀ m : Nat, j < m → m ≤ nb → slopeR t j * capF (widL.getD j 0) ≤ topTo s c (slTo s c t nb) m := by
          intro m
          induction m with
          | zero => intro h; omega
          | succ m ih =>
            intro h1 h2
            rw [topTo]
            by_cases e : j = m
            · subst e
              have : slTo s c t nb j * capF (widthF s c j) = slopeR t j * capF (widL.getD j 0) := by
                unfold slTo
                rw [if_pos hj, slopeR_eq s c t j hB, width_in hB]
              omega
            · have := ih (by omega) (by omega)
              omega
        exact this nb hj (Nat.le_refl _)
      have hle : capF (widL.getD j 0) ≤ ((n + 1 : Nat) : Int) / slopeR t j := by
        rw [Int.le_ediv_iff_mul_le (by omega), Int.mul_comm]
        omega
      omega
    · have hno' : ¬ sumK s c (atTo s c (slTo s c t nb) ((n + 1 : Nat) : Int) nb) nb * c ≤ bud := by
        unfold Fits at hno
        rwa [show ((n : Int) + 1) = ((n + 1 : Nat) : Int) from by omega] at hno
      have hs := sum_all (s := s) (c := c) (t := t) (nb := nb) (n + 1) (by omega)
      refine run_over (by omega) hc.1 (fun j hj => ?_) _ _ _ _ (by rw [hs]; omega)
      rw [L5_at _ j hj, mid_all _ j hj]
      by_cases hjn : j < nb
      · rw [at_val hnb _ j hjn]
        have hq := slopeR_pos t j (by omega)
        have hw := capF_w s c j nb hnb hjn
        rw [width_in (show (j : Int) < bandsF s c by omega)] at hw
        have : 0 ≤ ((n + 1 : Nat) : Int) / slopeR t j := Int.ediv_nonneg (by omega) (by omega)
        omega
      · unfold atTo; rw [if_neg hjn]; exact Int.le_refl 0
end
theorem allocF_not (s c t bud : Int) (hR : ¬ RightP s c) : allocF s c t bud = [0, 0, 0, 0, 0] := by
  have hb : bandsF s c = 0 := by unfold bandsF; rw [if_neg hR]
  have h : bestF s c t [0, 0, 0, 0, 0] < 0 := by
    have h1 := bestF_lt s c t [0, 0, 0, 0, 0]
    omega
  unfold allocF
  generalize hz : ([0, 0, 0, 0, 0] : List Int) = z at *
  show allocGo s c t bud (160 + 1) z = z
  generalize (160 : Nat) = f
  simp only [allocGo]
  rw [if_pos h]
/-- A share shares out as layer 14 does. -/
theorem shareAlloc (hb sh : Nat) (s c t bud : Int) (w : World) (h : ShareAt hb sh w) (hW : WidthW w) :
    Calls Tryd.prog 29 #[.pointer (some ⟨hb, 0, none⟩), .agg #[.int .i64 s, .int .i64 c], .int .i64 t, .int .i64 bud] w fun e w' => e = .returned (aggOf (allocF s c t bud)) ∧ Below w.heap.size w w' := by
  have h5 := bandsF_bd s c
  obtain ⟨nb, hnb⟩ := Int.eq_ofNat_of_zero_le h5.1
  refine (shAlloc hb sh s c t bud nb hnb w h hW).mono ?_
  rintro e w' ⟨lo, hF, rfl, hbw⟩
  refine ⟨?_, hbw⟩
  rw [ag_L5]
  by_cases hR : RightP s c
  · rw [found_alloc hR hnb lo hF]
  · have h0 : nb = 0 := by unfold bandsF at hnb; rw [if_neg hR] at hnb; omega
    subst h0
    rw [allocF_not s c t bud hR]
    have e : ∀ j, finF s c bud 0 (atTo s c (slTo s c t 0) (lo + 1) 0) 0 0 (atTo s c (slTo s c t 0) lo 0) j = 0 := fun j => by
      show atTo s c (slTo s c t 0) lo 0 j = 0
      unfold atTo
      rw [if_neg (by omega)]
    unfold L5
    rw [e, e, e, e, e]
end Go.Proofs.YtcibajleknhklaaDoor
end

section
namespace Go
open Go.RowKit
theorem setCell_block (w : World) (p : Addr) (v : Value) (k : Nat) (h : p.block ≠ k) : (w.setCell p v).heap[k]? = w.heap[k]? := by
  show (w.heap.modify p.block _)[k]? = _
  rw [Array.getElem?_modify, if_neg h]
end Go
namespace Go
open Go.RowKit
/-- All that was there stays, but one block. -/
structure But (K : Nat) (w w' : World) : Prop where
  os : w'.os = w.os
  tape : w'.tape = w.tape
  output : w'.output = w.output
  size : w.heap.size ≤ w'.heap.size
  block : ∀ k, k < w.heap.size → K ≠ k → w'.heap[k]? = w.heap[k]?
theorem But.refl (K : Nat) (w : World) : But K w w := ⟨rfl, rfl, rfl, Nat.le_refl _, fun _ _ _ => rfl⟩
theorem But.below {K : Nat} {w a b : World} (h : But K w a) (hb : Below w.heap.size a b) : But K w b :=
  ⟨hb.os.trans h.os, hb.tape.trans h.tape, hb.output.trans h.output, Nat.le_trans h.size hb.size, fun k hk hne => (hb.block k hk).trans (h.block k hk hne)⟩
theorem But.grew {K : Nat} {w a : World} (h : But K w a) (x : Grown.By) : But K w (a.grew x) := h.below (below_grew (Below.refl _ _) h.size x)
theorem But.setCell {K : Nat} {w a : World} (h : But K w a) (i : Nat) (s : Option Nat) (v : Value) : But K w (a.setCell ⟨K, i, s⟩ v) :=
  ⟨h.os, h.tape, h.output, by simpa using h.size, fun k hk hne => (setCell_block _ _ _ _ hne).trans (h.block k hk hne)⟩
theorem But.frozen {K : Nat} {w a : World} (h : But K w a) (b o : Nat) (hb : b < w.heap.size) (hne : K ≠ b) : a.frozen? ⟨b, o, none⟩ = w.frozen? ⟨b, o, none⟩ := by
  unfold World.frozen?; rw [h.block b hb hne]
theorem But.cell {K : Nat} {w a : World} (h : But K w a) (b o : Nat) (hb : b < w.heap.size) (hne : K ≠ b) : a.cell? ⟨b, o, none⟩ = w.cell? ⟨b, o, none⟩ := by
  unfold World.cell?; rw [h.block b hb hne]
end Go
namespace Go.Proofs.YtcibajleknhklaaDoor
open Go.RowKit Go.BigFrame Go.Vec Go.Cost Go.Proofs.YtcibajleknhklaaDoorW.PrintWords
open RShareTells
set_option linter.unusedSimpArgs false
/-- A slice of whole numbers in a block of its own. -/
def RowAt (w : World) (v : Value) (r : List Int) : Prop := ∃ g c cs, v = .slice (some ⟨g, 0, none⟩) r.length c ∧ w.heap[g]? = some (.cells cs 3 (0, 0)) ∧ ∀ j, j < r.length → cs[j]? = some (.int .i64 (r.getD j 0))
theorem RowAt.below {w w' : World} {v : Value} {r : List Int} (h : RowAt w v r) (hb : Below w.heap.size w w') : RowAt w' v r := by
  obtain ⟨g, c, cs, hv, hg, hc⟩ := h
  exact ⟨g, c, cs, hv, (hb.block g (Array.getElem?_eq_some_iff.1 hg).1).trans hg, hc⟩
/-- An append to a row of another type leaves it. -/
theorem RowAt.grown {w w' : World} {v u : Value} {r : List Int} {base n size : Nat} {e : TypeId} {xs : List Value} (h : RowAt w v r) (ho : w.ownsRow base e size u n xs) (he : e ≠ 3) (hg : w.grownBy w' u.ownBlock) : RowAt w' v r := by
  obtain ⟨g, c, cs, hv, hb, hc⟩ := h
  refine ⟨g, c, cs, hv, (hg.block g (Array.getElem?_eq_some_iff.1 hb).1 (fun hh => ?_)).trans hb, hc⟩
  rcases ho.2 with ⟨rfl, _⟩ | ⟨g', cap, cur, rfl, _, hh', _⟩
  · exact absurd hh (by simp [Value.ownBlock])
  · have : g = g' := by
      have := hh
      simp [Value.ownBlock] at this
      omega
    subst this
    rw [hb] at hh'
    cases hh'
    exact he rfl
theorem five {l : List Int} (h : l.length = 5) : ∃ a0 a1 a2 a3 a4, l = [a0, a1, a2, a3, a4] := by
  match l, h with
  | [a, b, c, d, e], _ => exact ⟨a, b, c, d, e, rfl⟩
def cellsOf (l : List Int) : Array Value := (l.map (Value.int .i64)).toArray
end Go.Proofs.YtcibajleknhklaaDoor
end

section
namespace Go
open Go.ChangeMaps Go.MapKept Go.WideElems Go.WideMaps
open Go.Maps (Keyed)
set_option linter.unusedSimpArgs false
set_option linter.unusedVariables false
section
variable {H : Type} {P : Program} {w : World} {t k e : TypeId} {b n : Nat} {D : DataW H} {q : IntKind}
theorem heap_of_set {w : World} {b : Nat} {es0 : Array MapEntry} {c0 : Nat} {o1 o2 : Obj} (hb : w.heap[b]? = some (.map es0 c0)) (h : setBlock w b o1 = setBlock w b o2) : o1 = o2 := by
  have := congrArg (fun u : World => u.heap[b]?) h
  simp only [heap_setBlock_same hb] at this
  exact Option.some.inj this
theorem setBlock_self {W : World} {b : Nat} {o : Obj} (hb : W.heap[b]? = some o) : setBlock W b o = W := by
  unfold setBlock
  congr 1
  apply Array.ext_getElem?
  intro i
  rw [Array.getElem?_setIfInBounds]
  by_cases h : b = i
  · subst h
    rw [if_pos rfl, hb]
    simp [(Array.getElem?_eq_some_iff.1 hb).1]
  · rw [if_neg h]
/-- What 'm[k]++' comes to, whichever of its steps has been taken. -/
theorem own_entry (h : w.ownsMap P k (plainElem P e) b n D) (K : KeyLaw P k) (ht : P.underlying t = some (.map k e)) (he : P.underlying e = some (.int q)) (hz : ∀ u : World, (zeroValue e).run P u = .ok (.int q 0) u) (hn : n < maxLen)
    {key : Value} {kl : Lit} (hkey : keyOf P k key = some kl) :
    ∃ (es es1 : Array MapEntry) (clock clock1 : Nat) (v0 : Value) (st : Nat) (c : Int), w.heap[b]? = some (.map es clock) ∧ D.atKey kl (.lit (.int q 0)) = .lit (.int q c) ∧ (Lit.int q c).wf = true ∧
      ∀ W : World, (W.heap[b]? = some (.map es clock) ∨ W.heap[b]? = some (.map es1 clock1)) →
        (Instr.lookup t (.map (some b)) key false).run P W = .ok (.int q c) W ∧
        (Instr.mapEntry t (.map (some b)) key).run P W = .ok (.tuple #[v0, goInt st]) (setBlock W b (.map es1 clock1)) ∧
        ∀ (val : Value) (d : DataW H), W.heap[b]? = some (.map es1 clock1) → plainElem P e val = some (d, []) →
          ∃ es' clock', (Instr.entryStore t (.map (some b)) (goInt st) val).run P W = .ok () (setBlock W b (.map es' clock')) ∧ (setBlock W b (.map es' clock')).ownsMap P k (plainElem P e) b (n + 1) (D.put kl d) := by
  have K' : Keyed P k := Keyed.of_law K
  have hw0 : (Lit.int q 0).wf = true := by cases q <;> decide
  obtain ⟨c, hrunc, hatc, hwc⟩ := h.lookup_int K' ht he (hz w) hkey
  obtain ⟨es, clock, hb, F, hs, hD⟩ := h
  have hown : ∀ W : World, W.heap[b]? = some (.map es clock) → W.ownsMap P k (plainElem P e) b n D := fun W hW => ⟨es, clock, hW, F, hs, hD⟩
  have hlk : ∀ W : World, W.heap[b]? = some (.map es clock) → (Instr.lookup t (.map (some b)) key false).run P W = .ok (.int q c) W := fun W hW => by
    obtain ⟨c', hr, ha, _⟩ := (hown W hW).lookup_int K' ht he (hz W) hkey
    rw [hatc] at ha
    simp only [DataW.lit.injEq, Lit.int.injEq, true_and] at ha
    rw [hr, ha]
  obtain ⟨s1, s2, _⟩ := F.stamped
  have hupd : ∀ (val : Value) (d : DataW H), plainElem P e val = some (d, []) → ∃ es' clock', (Instr.mapUpdate t (.map (some b)) key val).run P w = .ok () (setBlock w b (.map es' clock')) ∧
      (∀ (W : World) (es0 : Array MapEntry) (c0 : Nat), W.heap[b]? = some (.map es0 c0) → (setBlock W b (.map es' clock')).ownsMap P k (plainElem P e) b (n + 1) (D.put kl d)) ∧ Fit P k (plainElem (H := H) P e) es' clock' := fun val d hv => by
    obtain ⟨es', clock', hrun, F', hput, _⟩ := Maps.fit_store (R' := plainElem P e) K' ht hb F (Nat.lt_of_le_of_lt hs hn) (fun _ _ _ _ hz => hz) hkey hv
    refine ⟨es', clock', hrun, fun W es0 c0 hW => ⟨es', clock', heap_setBlock_same hW _, F', ?_, ?_⟩, F'⟩
    · have e1 : es'.size = ((es'.toList.map (rg P k (plainElem (H := H) P e))).foldr DataW.insert []).length := by rw [length_sorted]; simp
      rw [e1, hput]
      unfold putKey
      rw [length_insert]
      have e2 := List.length_filter_le (notKey kl) ((es.toList.map (rg P k (plainElem (H := H) P e))).foldr DataW.insert [])
      rw [length_sorted] at e2
      simp at e2
      omega
    · rw [hD, DataW.put_eq, hput]
  have hnone : (Instr.findKey k key es.toList).run P w = .ok none w ∧ (∀ x ∈ es.toList, x.key ≠ key) ∨ ∃ j e0, (Instr.findKey k key es.toList).run P w = .ok (some (j, e0.val)) w ∧ es.toList[j]? = some e0 ∧ e0.key = key := K.find w hkey es.toList F.keys
  rcases hnone with ⟨h1, h2⟩ | ⟨j, e0, h1, h2, h3⟩
  · have hf : ∀ W : World, (Instr.findKey k key es.toList).run P W = .ok none W := fun W => by
      rcases K.find W hkey es.toList F.keys with ⟨g1, _⟩ | ⟨j, e0, _, g2, g3⟩
      · exact g1
      · exact absurd g3 (h2 e0 (List.mem_of_getElem? g2))
    have hc0 : c = 0 := by
      have : (Instr.lookup t (.map (some b)) key false).run P w = .ok (.int q 0) w := by
        simp [Instr.lookup, run_underlying ht, MapKept.run_getObj_map hb, K.check w _ hkey, h1, hz, Result.andThen]
      rw [hrunc] at this
      simp only [Result.ok.injEq, Value.int.injEq, true_and, and_true] at this
      exact this
    have hmu : ∀ val, (Instr.mapUpdate t (.map (some b)) key val).run P w = .ok () (setBlock w b (.map (es.push ⟨key, val, clock⟩) (clock + 1))) := fun val => by
      simp [Instr.mapUpdate, run_underlying ht, MapKept.run_getObj_map hb, K.check w false hkey, h1, MapKept.run_setObj_map _ hb, Result.andThen, setBlock]
    have hpush : ∀ val (d : DataW H), plainElem P e val = some (d, []) → (∀ (W : World) (es0 : Array MapEntry) (c0 : Nat), W.heap[b]? = some (.map es0 c0) → (setBlock W b (.map (es.push ⟨key, val, clock⟩) (clock + 1))).ownsMap P k (plainElem P e) b (n + 1) (D.put kl d)) ∧ Fit P k (plainElem (H := H) P e) (es.push ⟨key, val, clock⟩) (clock + 1) := fun val d hv => by
      obtain ⟨es', clock', hrun, ho, F'⟩ := hupd val d hv
      rw [hmu val] at hrun
      simp only [Result.ok.injEq, true_and] at hrun
      have := heap_of_set hb hrun
      simp only [Obj.map.injEq] at this
      obtain ⟨rfl, rfl⟩ := this
      exact ⟨ho, F'⟩
    obtain ⟨-, F1⟩ := hpush (.int q 0) (.lit (.int q 0)) (plainElem_int he hw0)
    obtain ⟨s1', s2', _⟩ := F1.stamped
    have hidx : (es.push ⟨key, .int q 0, clock⟩).findIdx? (fun e => ((e.born : Nat) : Int) == ((clock : Nat) : Int)) = some es.size := by
      rw [findIdx_arr]
      exact findIdx_born (l := (es.push ⟨key, .int q 0, clock⟩).toList) (j := es.size) (e0 := ⟨key, .int q 0, clock⟩) s2' (by simp)
    refine ⟨es, es.push ⟨key, .int q 0, clock⟩, clock, clock + 1, .int q 0, clock, c, hb, hatc, hwc, fun W hW => ?_⟩
    rcases hW with hA | hB
    · refine ⟨hlk W hA, ?_, fun val d hB hv => ?_⟩
      · simp [Instr.mapEntry, run_underlying ht, MapKept.run_getObj_map hA, K.check W false hkey, hf W, hz, MapKept.run_setObj_map _ hA, Result.andThen, setBlock]
      · rw [hA] at hB
        simp only [Option.some.injEq, Obj.map.injEq] at hB
        have := congrArg Array.size hB.1
        simp at this
    · have hfB : ∃ j e0, (Instr.findKey k key (es.push ⟨key, .int q 0, clock⟩).toList).run P W = .ok (some (j, e0.val)) W ∧ (es.push ⟨key, .int q 0, clock⟩).toList[j]? = some e0 ∧ e0.key = key := by
        rcases K.find W hkey (es.push ⟨key, .int q 0, clock⟩).toList F1.keys with ⟨_, g2⟩ | g
        · exact absurd rfl (g2 ⟨key, .int q 0, clock⟩ (by simp))
        · exact g
      obtain ⟨j, e0, g1, g2, g3⟩ := hfB
      have hm : e0 ∈ (es.push ⟨key, .int q 0, clock⟩).toList := List.mem_of_getElem? g2
      have he0 : e0 = ⟨key, .int q 0, clock⟩ := by
        simp only [Array.toList_push, List.mem_append, List.mem_singleton] at hm
        rcases hm with hm | hm
        · exact absurd g3 (h2 e0 hm)
        · exact hm
      subst he0
      obtain ⟨E, hE⟩ : ∃ E, es.push ⟨key, .int q 0, clock⟩ = E := ⟨_, rfl⟩
      rw [hE] at g1 g2 hB hidx ⊢
      have hj : E[j]? = some ⟨key, .int q 0, clock⟩ := by rw [← Array.getElem?_toList]; exact g2
      have hsame : E.modify j (fun e => { e with key := key }) = E := by
        apply Array.ext'
        rw [Array.toList_modify, modify_eq_set _ _ _ _ g2]
        exact set_self _ _ _ g2
      refine ⟨?_, ?_, fun val d _ hv => ?_⟩
      · rw [hc0]
        simp [Instr.lookup, run_underlying ht, MapKept.run_getObj_map hB, K.check W _ hkey, g1, Result.andThen]
      · rw [setBlock_self hB]
        simp [Instr.mapEntry, run_underlying ht, MapKept.run_getObj_map hB, K.check W false hkey, g1, hj, K.stays W hkey, hsame, MapKept.run_setObj_map _ hB, Result.andThen]
        exact setBlock_self hB
      · obtain ⟨ho, _⟩ := hpush val d hv
        have hmod : E.modify es.size (fun e => { e with val := val }) = es.push ⟨key, val, clock⟩ := by
          rw [← hE]
          apply Array.ext'
          rw [Array.toList_modify, Array.toList_push, Array.toList_push, ← Array.length_toList, modify_last]
        refine ⟨es.push ⟨key, val, clock⟩, clock + 1, ?_, ho W _ _ hB⟩
        simp [Instr.entryStore, MapKept.run_getObj_map hB, asInt, asIntOf, goInt, hidx, hmod, MapKept.run_setObj_map _ hB, Result.andThen, setBlock]
  · have hinj : ∀ j' (e0' : MapEntry), es.toList[j']? = some e0' → e0'.key = key → e0' = e0 ∧ j' = j := fun j' e0' g2 g3 => by
      have hpw := F.stamped.2.2
      have e1 : e0' = e0 := entry_eq_of_key (List.pairwise_map.1 hpw) (List.mem_of_getElem? g2) (List.mem_of_getElem? h2) (g3.trans h3.symm)
      subst e1
      refine ⟨rfl, ?_⟩
      have hm1 : (es.toList.map (·.born))[j']? = some e0'.born := by rw [List.getElem?_map, g2]; rfl
      have hm2 : (es.toList.map (·.born))[j]? = some e0'.born := by rw [List.getElem?_map, h2]; rfl
      exact (List.getElem?_inj (List.getElem?_eq_some_iff.1 hm1).1 s2).1 (hm1.trans hm2.symm)
    have hfA : ∀ W : World, (Instr.findKey k key es.toList).run P W = .ok (some (j, e0.val)) W := fun W => by
      rcases K.find W hkey es.toList F.keys with ⟨_, g2⟩ | ⟨j', e0', g1, g2, g3⟩
      · exact absurd h3 (g2 e0 (List.mem_of_getElem? h2))
      · obtain ⟨rfl, rfl⟩ := hinj j' e0' g2 g3
        exact g1
    have hj : es[j]? = some e0 := by simpa using h2
    have hsame : es.modify j (fun e => { e with key := key }) = es := by
      apply Array.ext'
      rw [Array.toList_modify, modify_eq_set _ _ _ _ h2]
      have : ({ e0 with key := key } : MapEntry) = e0 := by rw [← h3]
      rw [this]
      exact set_self _ _ _ h2
    have hidx : es.findIdx? (fun e => ((e.born : Nat) : Int) == ((e0.born : Nat) : Int)) = some j := by
      rw [findIdx_arr]
      exact findIdx_born s2 h2
    refine ⟨es, es, clock, clock, e0.val, e0.born, c, hb, hatc, hwc, fun W hW => ?_⟩
    have hA : W.heap[b]? = some (.map es clock) := hW.elim id id
    refine ⟨hlk W hA, ?_, fun val d _ hv => ?_⟩
    · rw [setBlock_self hA]
      simp [Instr.mapEntry, run_underlying ht, MapKept.run_getObj_map hA, K.check W false hkey, hfA W, hj, h3, K.stays W hkey, hsame, MapKept.run_setObj_map _ hA, Result.andThen]
      exact setBlock_self hA
    · obtain ⟨es', clock', hrun, ho, _⟩ := hupd val d hv
      have hmu : (Instr.mapUpdate t (.map (some b)) key val).run P w = .ok () (setBlock w b (.map (es.modify j (fun e' => { e' with key := key, val := val })) clock)) := by
        simp [Instr.mapUpdate, run_underlying ht, MapKept.run_getObj_map hb, K.check w false hkey, hfA w, hj, h3, K.stays w hkey, MapKept.run_setObj_map _ hb, Result.andThen, setBlock]
      rw [hmu] at hrun
      simp only [Result.ok.injEq, true_and] at hrun
      have := heap_of_set hb hrun
      simp only [Obj.map.injEq] at this
      obtain ⟨rfl, rfl⟩ := this
      have hmod : es.modify j (fun e => { e with val := val }) = es.modify j (fun e' => { e' with key := key, val := val }) := by
        apply Array.ext'
        rw [Array.toList_modify, Array.toList_modify, modify_eq_set _ _ _ _ h2, modify_eq_set _ _ _ _ h2, ← h3]
      refine ⟨_, _, ?_, ho W _ _ hA⟩
      simp [Instr.entryStore, MapKept.run_getObj_map hA, asInt, asIntOf, goInt, hidx, hmod, MapKept.run_setObj_map _ hA, Result.andThen, setBlock]
end
end Go
end

section
namespace Go.Proofs.YtcibajleknhklaaDoor
open Go.RowKit Go.BigFrame Go.Vec Go.Cost
set_option linter.unusedSimpArgs false
set_option linter.unusedVariables false
theorem ShareAt.keep {hb sh : Nat} {w w' : World} (h : ShareAt hb sh w) (hb' : Below w.heap.size w w') : ShareAt hb sh w' :=
  ⟨(hb'.block _ (block_facts h.sha).2.2).trans h.sha, h.sheet.below (sheet_lt h.sheet) hb'⟩
theorem shareNew (sh : Nat) (w : World) (hS : SheetOK sh w) : Calls Tryd.prog 71 #[.pointer (some ⟨sh, 0, none⟩)] w fun e w' => ∃ hb, e = .returned (.pointer (some ⟨hb, 0, none⟩)) ∧ w.heap.size ≤ hb ∧ ShareAt hb sh w' ∧ Below w.heap.size w w' := by
  have HS := Lib.hid hS
  clear hS
  go_enter Tryd.func71, Tryd.ntmps71
  go_wp2_with fail
  go_ret
  exact ⟨w.heap.size, rfl, Nat.le_refl _, ⟨alloc_at _ _, HS.out.below (sheet_lt HS.out) (by (repeat' (first | (with_reducible exact Below.refl _ _) | (with_reducible assumption) | (with_reducible refine Below.alloc ?_ ?_ _) | (with_reducible refine below_grew ?_ ?_ _) | (with_reducible refine Below.setCell ?_ ?_ _) | (with_reducible refine Below.drew ?_) | (with_reducible refine below_drewN ?_ _) | omega | (simp; done) | (simp; omega))))⟩, by (repeat' (first | (with_reducible exact Below.refl _ _) | (with_reducible assumption) | (with_reducible refine Below.alloc ?_ ?_ _) | (with_reducible refine below_grew ?_ ?_ _) | (with_reducible refine Below.setCell ?_ ?_ _) | (with_reducible refine Below.drew ?_) | (with_reducible refine below_drewN ?_ _) | omega | (simp; done) | (simp; omega)))⟩
set_option maxHeartbeats 1000000 in
theorem fresh_any (w : World) : Calls Tryd.prog 28 #[] w fun e w' => ∃ hb sh, e = .returned (.pointer (some ⟨hb, 0, none⟩)) ∧ ShareAt hb sh w' ∧ Below w.heap.size w w' := by
  have ht := Lib.hid (fun w => tabNew w)
  have hs := Lib.hid (fun t w hT ht => sheetNew t w hT ht)
  have hn := Lib.hid (fun sh w hS => shareNew sh w hS)
  go_enter Tryd.func28, Tryd.ntmps28
  go_wp2_with fail
  refine (ht.out _).mono ?_
  rintro e w1 ⟨tb, rfl, htb, hT, hb1⟩
  have HT := Lib.hid hT
  have HB1 := Lib.hid hb1
  have hlt : tb < w1.heap.size := by obtain ⟨cs, h1, _⟩ := hT; exact (Array.getElem?_eq_some_iff.1 h1).1
  clear hT hb1
  go_wp2_with fail
  refine (hs.out tb w1 HT.out hlt).mono ?_
  rintro e w2 ⟨sb, rfl, hsb, hS, hb2⟩
  have HS := Lib.hid hS
  have HB2 := Lib.hid (HB1.out.trans (hb2.mono HB1.out.size))
  clear hS hb2
  go_wp2_with fail
  refine (hn.out sb w2 HS.out).mono ?_
  rintro e w3 ⟨hb, rfl, hhb, hA, hb3⟩
  have HA := Lib.hid hA
  have HB3 := Lib.hid (HB2.out.trans (hb3.mono HB2.out.size))
  clear hA hb3
  go_wp2_with fail
  go_ret
  exact ⟨hb, sb, rfl, HA.out, HB3.out⟩
end Go.Proofs.YtcibajleknhklaaDoor
end

section
namespace Go.Proofs.YtcibajleknhklaaDoor
open Go.RowKit Go.BigFrame Go.WideMaps Go.WideElems Go.ChangeMaps
set_option linter.unusedSimpArgs false
set_option linter.unusedVariables false
abbrev TI := 3
theorem laidOut : laidOutB Tryd.prog = true := by kernel_rfl
theorem cellsTI : Tryd.prog.cellsOf TI = 1 := by kernel_rfl
theorem cellsA5 : Tryd.prog.cellsOf A5 = 5 := by kernel_rfl
theorem arr5 : ArrKey Tryd.prog A5 TI 5 := ⟨Tryd.underlying55, by kernel_rfl, cellsTI, cellsA5⟩
theorem row5 : (A5 : TypeId) < Tryd.prog.types.size := of_decide_eq_true (by kernel_rfl)
theorem keyAt5 : Tryd.prog.keyTypeAt 2 A5 = true := by kernel_rfl
theorem law5 : KeyLaw Tryd.prog A5 := deep_law_laid (k := A5) laidOut (m := 2) (by omega) row5 keyAt5 (by rw [Tryd.underlying55])
theorem keyed5 : Go.Maps.Keyed Tryd.prog A5 := Go.Maps.Keyed.of_law law5
theorem zeroTI (u : World) : (zeroValue TI).run Tryd.prog u = .ok (.int .i64 0) u := by kernel_rfl
theorem sz_pos : ∃ m, Tryd.prog.types.size = m + 1 := ⟨Tryd.prog.types.size - 1, by
    have h := row5
    omega⟩
section
variable {P : Program} {k e : TypeId} {q : IntKind}
theorem keyOf_five (A : ArrKey P k e 5) (he : P.underlying e = some (.int q)) (hsz : ∃ m, P.types.size = m + 1) {a b c d f : Int} (wa : (Lit.int q a).wf = true) (wb : (Lit.int q b).wf = true) (wc : (Lit.int q c).wf = true) (wd : (Lit.int q d).wf = true) (wf : (Lit.int q f).wf = true) :
    keyOf P k (.agg #[.int q a, .int q b, .int q c, .int q d, .int q f]) = some (.string (keyBytes [.int q a, .int q b, .int q c, .int q d, .int q f])) := by
  have hkt := A.keyType hsz
  obtain ⟨m, hm⟩ := hsz
  unfold keyOf
  simp only [A.hu]
  rw [if_pos (by simp [hkt, Value.formed, A.hu, A.size]), hm]
  unfold Program.keyLits
  simp only [A.hu, Value.cells]
  rw [if_pos (by rw [A.size]; rfl), show List.range 5 = [0, 1, 2, 3, 4] from rfl, List.mapM_cons, List.mapM_cons, List.mapM_cons, List.mapM_cons, List.mapM_cons, List.mapM_nil]
  simp [A.one, Program.keyLits, he, wa, wb, wc, wd, wf]
theorem keyLits_one (he : P.underlying e = some (.int q)) (m : Nat) (x : Value) (y : List Lit) (h : P.keyLits (m + 1) e [x] = some y) : ∃ n, x = .int q n ∧ (Lit.int q n).wf = true := by
  unfold Program.keyLits at h
  rw [he] at h
  cases x <;> simp at h
  obtain ⟨⟨rfl, hw⟩, _⟩ := h
  exact ⟨_, rfl, hw⟩
theorem keyLits_one' (he : P.underlying e = some (.int q)) {m : Nat} (x : Value) (y : List Lit) (h : P.keyLits m e [x] = some y) : ∃ n, x = .int q n ∧ (Lit.int q n).wf = true := by
  cases m with
  | zero => simp [Program.keyLits] at h
  | succ m => exact keyLits_one he m x y h
theorem keyOf_five_inv (A : ArrKey P k e 5) (he : P.underlying e = some (.int q)) {key : Value} {kl : Lit} (h : keyOf P k key = some kl) :
    ∃ a b c d f : Int, key = .agg #[.int q a, .int q b, .int q c, .int q d, .int q f] ∧ (Lit.int q a).wf = true ∧ (Lit.int q b).wf = true ∧ (Lit.int q c).wf = true ∧ (Lit.int q d).wf = true ∧ (Lit.int q f).wf = true := by
  unfold keyOf at h
  simp only [A.hu] at h
  split at h
  · rename_i hf
    rw [Bool.and_eq_true] at hf
    obtain ⟨-, hf⟩ := hf
    unfold Value.formed at hf
    simp only [A.hu] at hf
    cases key with
    | agg cs =>
      simp only [Option.map_eq_some_iff] at h
      obtain ⟨ls, hls, -⟩ := h
      unfold Program.keyLits at hls
      simp only [A.hu, Value.cells] at hls
      split at hls
      · rename_i hl
        rw [A.size] at hl
        obtain ⟨l⟩ := cs
        match l, hl with
        | [x0, x1, x2, x3, x4], _ =>
          simp only [Option.map_eq_some_iff] at hls
          obtain ⟨xs, hx, -⟩ := hls
          rw [show List.range 5 = [0, 1, 2, 3, 4] from rfl, List.mapM_cons, List.mapM_cons, List.mapM_cons, List.mapM_cons, List.mapM_cons, List.mapM_nil] at hx
          simp only [bind, Option.bind_eq_some_iff, pure, Option.some.injEq, A.one] at hx
          obtain ⟨y0, g0, _, ⟨y1, g1, _, ⟨y2, g2, _, ⟨y3, g3, _, ⟨y4, g4, _⟩, _⟩, _⟩, _⟩, _⟩ := hx
          obtain ⟨n0, r0, w0⟩ := keyLits_one' he _ y0 (by simpa using g0)
          obtain ⟨n1, r1, w1⟩ := keyLits_one' he _ y1 (by simpa using g1)
          obtain ⟨n2, r2, w2⟩ := keyLits_one' he _ y2 (by simpa using g2)
          obtain ⟨n3, r3, w3⟩ := keyLits_one' he _ y3 (by simpa using g3)
          obtain ⟨n4, r4, w4⟩ := keyLits_one' he _ y4 (by simpa using g4)
          subst r0 r1 r2 r3 r4
          exact ⟨n0, n1, n2, n3, n4, rfl, w0, w1, w2, w3, w4⟩
      · cases hls
    | _ => simp at hf
  · cases h
end
def wf5 (f : Nat → Int) : Prop := ∀ j, j < 5 → (Lit.int .i64 (f j)).wf = true
def k5 (f : Nat → Int) : Lit := .string (keyBytes [.int .i64 (f 0), .int .i64 (f 1), .int .i64 (f 2), .int .i64 (f 3), .int .i64 (f 4)])
theorem key5 (f : Nat → Int) (hf : wf5 f) : keyOf Tryd.prog A5 (.agg (ag i64s 5 f)) = some (k5 f) :=
  keyOf_five arr5 Tryd.underlying3 sz_pos (hf 0 (by omega)) (hf 1 (by omega)) (hf 2 (by omega)) (hf 3 (by omega)) (hf 4 (by omega))
theorem key5_inv {key : Value} {kl : Lit} (h : keyOf Tryd.prog A5 key = some kl) : ∃ f : Nat → Int, key = .agg (ag i64s 5 f) ∧ wf5 f := by
  obtain ⟨a, b, c, d, f, rfl, wa, wb, wc, wd, wf⟩ := keyOf_five_inv arr5 Tryd.underlying3 h
  refine ⟨fun j => [a, b, c, d, f].getD j 0, rfl, fun j hj => ?_⟩
  rcases (show j = 0 ∨ j = 1 ∨ j = 2 ∨ j = 3 ∨ j = 4 by omega) with h | h | h | h | h <;> subst h <;> assumption
theorem key5_inj {f g : Nat → Int} (hf : wf5 f) (hg : wf5 g) (h : k5 f = k5 g) : ∀ j, j < 5 → f j = g j := by
  have h1 := key5 f hf
  have h2 := key5 g hg
  rw [← h] at h2
  have := law5.inj h1 h2
  simp only [Value.agg.injEq] at this
  intro j hj
  have e := congrArg (fun a : Array Value => a[j]?) this
  simp only [ag_get _ _ _ j hj, Option.some.injEq, Value.int.injEq, true_and] at e
  exact e
end Go.Proofs.YtcibajleknhklaaDoor
end

section
namespace Go.Proofs.YtcibajleknhklaaDoor
open Go.RowKit Go.BigFrame Go.WideMaps Go.WideElems Go.ChangeMaps
set_option linter.unusedSimpArgs false
set_option linter.unusedVariables false
abbrev TL := 66
/-- A log, as it reads. -/
abbrev LogAt (b n : Nat) (D : DataW Unit) (w : World) : Prop := w.ownsMap Tryd.prog A5 (plainElem Tryd.prog TI) b n D
/-- How often a key is there. -/
def cntD (D : DataW Unit) (k : Lit) : Int := match D.atKey k (.lit (.int .i64 0)) with
  | .lit (.int _ n) => n
  | _ => 0
def addD (D : DataW Unit) (f : Nat → Int) : DataW Unit := D.put (k5 f) (.lit (.int .i64 (wrap64 (cntD D (k5 f) + 1))))
def addTo (D : DataW Unit) (X : Nat → Nat → Int) : Nat → DataW Unit
  | 0 => D
  | n + 1 => addD (addTo D X n) (X n)
theorem underTL : Tryd.prog.underlying TL = some (.map A5 TI) := Tryd.underlying66
/-- Of what was there nothing has turned but the map; it is as it was, or has the entry. -/
structure ME (b : Nat) (o0 o1 : Obj) (V W : World) : Prop where
  gr : V.grownBy W (some b)
  st : W.heap[b]? = some o0 ∨ W.heap[b]? = some o1
structure MT (b : Nat) (o1 : Obj) (W W' : World) : Prop where
  gr : W.grownBy W' (some b)
  st : W'.heap[b]? = W.heap[b]? ∨ W'.heap[b]? = some o1
theorem ME.next {b o0 o1} {V W W' : World} (h : ME b o0 o1 V W) (ht : MT b o1 W W') : ME b o0 o1 V W' :=
  ⟨h.gr.andThen ht.gr (fun j hj => .inr (by rw [hj])), by
    rcases ht.st with h1 | h1
    · rw [h1]; exact h.st
    · exact .inr h1⟩
theorem MT.refl (b : Nat) (o1 : Obj) (W : World) : MT b o1 W W := ⟨⟨rfl, rfl, rfl, Nat.le_refl _, fun _ _ _ => rfl⟩, .inl rfl⟩
theorem set_grown {W : World} {b : Nat} {es0 : Array MapEntry} {c0 : Nat} (o : Obj) (hb : W.heap[b]? = some (.map es0 c0)) : W.grownBy (setBlock W b o) (some b) :=
  ⟨rfl, rfl, rfl, by simp [setBlock], fun i _ hi => heap_setBlock_other hb _ (fun e => hi (by rw [e]))⟩
theorem below_grown {w w' : World} (h : Below w.heap.size w w') (r : Option Nat) : w.grownBy w' r := ⟨h.os, h.tape, h.output, h.size, fun k hk _ => h.block k hk⟩
theorem wrap_wf (x : Int) : (Lit.int .i64 (wrap64 x)).wf = true := wrap64_wf x
set_option maxHeartbeats 4000000 in
set_option maxRecDepth 100000 in
theorem logAdd (b n0 : Nat) (D : DataW Unit) (len cap : Nat) (A : Option Addr) (X : Nat → Nat → Int) (w : World) (hL : LogAt b n0 D w) (hn : n0 + len ≤ 1000) (hwf : ∀ i, i < len → wf5 (X i))
    (hA : 0 < len → ∃ bk off, A = some ⟨bk, off, none⟩ ∧ bk < w.heap.size ∧ bk ≠ b ∧ ∀ i, i < len → ∀ j, j < 5 → w.cell? ⟨bk, off + i * 5 + j, none⟩ = some (.int .i64 (X i j))) :
    Calls Tryd.prog 32 #[.map (some b), .slice A len cap] w fun e w' => e = .returned (.tuple #[]) ∧ LogAt b (n0 + len) (addTo D X len) w' ∧ w.grownBy w' (some b) := by
  have HLO := Lib.hid hL
  have HA := Lib.hid hA
  have HWF := Lib.hid hwf
  have hbl := hL.lt
  have hl1 : len ≤ 1000 := by omega
  clear hL hA hwf
  go_enter Tryd.func32, Tryd.ntmps32
  go_wp2_with fail
  go_loopw [5, 8] (fun v5 cnt wr => ∃ k : Nat, k ≤ len ∧ cnt = .int .i64 k ∧ LogAt b (n0 + k) (addTo D X k) wr ∧ w.grownBy wr (some b)) (fun _ cnt _ => len - (intOf cnt).toNat)
  case atStart => exact ⟨0, by omega, rfl, HLO.out, World.grownBy.refl _ _⟩
  case round =>
    obtain ⟨k, hk, rfl, hL, hg⟩ := hrel
    have HL := Lib.hid hL
    have HG := Lib.hid hg
    have hk0 : (0 : Int) ≤ k := by omega
    clear hL hg
    by_cases hlt : k < len
    · have hlt' : (k : Int) < len := by omega
      obtain ⟨bk, off, rfl, hbk, hne, hX⟩ := HA.out (by omega)
      have hrX : wr.rangeAt bk (off + k * 5) (ag i64s 5 (X k)).toList := by
        intro j v hj
        rw [ag_toList] at hj
        have hj' : j < 5 := by
          have := (List.getElem?_eq_some_iff.1 hj).1
          simpa using this
        simp only [List.getElem?_map, List.getElem?_range hj', Option.map_some, Option.some.injEq] at hj
        subst hj
        exact HG.out.cell (hX k hlt j hj') (by show some bk ≠ some b; simpa using hne)
      have HRX := Lib.hid hrX
      have hwk := HWF.out k hlt
      have HWK := Lib.hid hwk
      clear hrX hX hwk hlt
      go_upto_region 3 with (first | ((with_reducible refine gate_load A5 _ rfl ?_); refine load_mid_g rfl A5 _ rfl bk (off + k * 5) rfl _ _ HRX.out Tryd.underlying55 rfl ?hi ?_; (case hi => rw [Array.length_toList, ag_size]; exact info5)) | (refine wpList_store_mid rfl A5 _ _ rfl wr.heap.size 0 (ag i64s 5 (X k)) rfl rfl ?hth ?hin3 ?hon ?_; (case hth => exact there_row (alloc_at _ _) _ (by rw [ag_size]; exact Nat.le_refl _)); (case hin3 => exact info5_ag _); (case hon => exact ag_one i64s 5 _)))
      obtain ⟨q1, q2⟩ := k5_new wr (X k)
      have hblr : b < wr.heap.size := HL.out.lt
      refine cut_world (fun W => LogAt b (n0 + k) (addTo D X k) W ∧ w.grownBy W (some b) ∧ Bx wr.heap.size A5 i64s 5 (X k) W) ⟨HL.out.kept (below_grown q1 none) (by simp), HG.out.trans (below_grown q1 _), q2⟩ ?_
      clear q1 q2 HL HG HRX
      generalize wr.heap.size = kb at *
      rintro V ⟨hL, hg, hkb⟩
      obtain ⟨es, es1, clock, clock1, v0, st, c, e0, e1, e2, e3⟩ := own_entry hL law5 underTL Tryd.underlying3 zeroTI (show n0 + k < maxLen by unfold maxLen; omega) (key5 (X k) HWK.out)
      have HEN := Lib.hid e3
      have HE1 := Lib.hid e1
      have HG := Lib.hid hg
      have HKB := Lib.hid hkb
      have hkbs := (block_facts hkb).2.2
      have hME : ME b (.map es clock) (.map es1 clock1) V V := ⟨World.grownBy.refl _ _, .inl e0⟩
      have hmd : ME b (.map es clock) (.map es1 clock1) V V.drew := ⟨⟨rfl, rfl, rfl, Nat.le_refl _, fun _ _ _ => rfl⟩, .inl e0⟩
      clear hL hg hkb e0 e1 e3 hME
      refine wp_region_inv [] (fun W => ME b (.map es clock) (.map es1 clock1) V W) (fun W W' => MT b (.map es1 clock1) W W') 6 (by kernel_rfl) (by kernel_rfl) (by kernel_rfl) hmd (fun W W' h h' => h.next h') (fun _ _ h => h.gr.size) ?_
      simp only [List.take_succ_cons, List.take_zero, List.drop_succ_cons, List.drop_zero]
      refine wpInv_det (by kernel_rfl) (by kernel_rfl) ?_
      apply Exists.intro
      refine ⟨?_, ?_, ?_⟩
      · intro U W hC hH
        simp only [HypsU, predsOf, Region.binds, List.filterMap_cons, List.filterMap_nil, if_true, List.nil_append, List.cons_append, List.getD_cons_zero, List.getD_cons_succ] at hH
        simp only [fillPuts, Act.put, List.setIfInBounds_toArray, List.set_cons_zero, List.set_cons_succ, Nat.reduceAdd]
        go_wp2_with fail
        refine ⟨rfl, rfl, MT.refl _ _ _, ?_⟩
        conv => lhs; whnf
        try rfl
      · exact fun _ => rfl
      simp only [List.nil_append, List.cons_append, Nat.reduceAdd]
      refine wpInv_det (by kernel_rfl) (by kernel_rfl) ?_
      apply Exists.intro
      refine ⟨?_, ?_, ?_⟩
      · intro U W hC hH
        simp only [HypsU, predsOf, Region.binds, List.filterMap_cons, List.filterMap_nil, if_true, List.nil_append, List.cons_append, List.getD_cons_zero, List.getD_cons_succ] at hH
        simp only [fillPuts, Act.put, List.setIfInBounds_toArray, List.set_cons_zero, List.set_cons_succ, Nat.reduceAdd]
        refine load_row_g rfl A5 _ rfl kb rfl _ (ag i64s 5 (X k)) (0, 0) _ ((hC.gr.block kb hkbs (by intro e; simp at e; omega)).trans HKB.out) Tryd.underlying55 rfl (info5_ag _) ?_
        go_wp2_with fail
        refine ⟨rfl, rfl, MT.refl _ _ _, ?_⟩
        conv => lhs; whnf
        try rfl
      · exact fun _ => rfl
      simp only [List.nil_append, List.cons_append, Nat.reduceAdd]
      refine wpInv_det (by kernel_rfl) (by kernel_rfl) ?_
      apply Exists.intro
      refine ⟨?_, ?_, ?_⟩
      · intro U W hC hH
        simp only [HypsU, predsOf, Region.binds, List.filterMap_cons, List.filterMap_nil, if_true, List.nil_append, List.cons_append, List.getD_cons_zero, List.getD_cons_succ] at hH
        simp only [fillPuts, Act.put, List.setIfInBounds_toArray, List.set_cons_zero, List.set_cons_succ, Nat.reduceAdd]
        have heq := (HEN.out W hC.st).1
        simp only [hH]
        go_wp2_with fail
        refine ⟨rfl, rfl, MT.refl _ _ _, ?_⟩
        conv => lhs; whnf
        try rfl
      · exact fun _ => rfl
      simp only [List.nil_append, List.cons_append, Nat.reduceAdd]
      refine wpInv_det (by kernel_rfl) (by kernel_rfl) ?_
      apply Exists.intro
      refine ⟨?_, ?_, ?_⟩
      · intro U W hC hH
        simp only [HypsU, predsOf, Region.binds, List.filterMap_cons, List.filterMap_nil, if_true, List.nil_append, List.cons_append, List.getD_cons_zero, List.getD_cons_succ] at hH
        simp only [fillPuts, Act.put, List.setIfInBounds_toArray, List.set_cons_zero, List.set_cons_succ, Nat.reduceAdd]
        simp only [hH]
        go_wp2_with fail
        refine ⟨rfl, rfl, MT.refl _ _ _, ?_⟩
        conv => lhs; whnf
        try rfl
      · exact fun _ => rfl
      simp only [List.nil_append, List.cons_append, Nat.reduceAdd]
      refine ⟨fun U W => U 4 = .tuple #[v0, goInt st] ∧ W.heap[b]? = some (.map es1 clock1), fun _ _ => rfl, ?_, ?_, ?_⟩
      · rintro U W W' hC hT ⟨h4, hB⟩
        refine ⟨h4, ?_⟩
        rcases hT.st with h | h
        · rw [h]; exact hB
        · exact h
      · intro U W hC hH
        simp only [HypsU, predsOf, Region.binds, List.filterMap_cons, List.filterMap_nil, if_true, List.nil_append, List.cons_append, List.getD_cons_zero, List.getD_cons_succ] at hH
        simp only [fillPuts, Act.put, List.setIfInBounds_toArray, List.set_cons_zero, List.set_cons_succ, Nat.reduceAdd]
        have heq := (HEN.out W hC.st).2.1
        have hmt : MT b (.map es1 clock1) W (setBlock W b (.map es1 clock1)) := by
          rcases hC.st with h | h
          · exact ⟨set_grown _ h, .inr (heap_setBlock_same h _)⟩
          · exact ⟨set_grown _ h, .inr (heap_setBlock_same h _)⟩
        have hbb : (setBlock W b (.map es1 clock1)).heap[b]? = some (.map es1 clock1) := by
          rcases hC.st with h | h
          · exact heap_setBlock_same h _
          · exact heap_setBlock_same h _
        simp only [hH]
        go_wp2_with fail
        exact ⟨rfl, rfl, hmt, ⟨updU_eq _ _ _, hbb⟩, fun h => by cases h⟩
      simp only [List.nil_append, List.cons_append, Nat.reduceAdd]
      refine wpInv_det (by kernel_rfl) (by kernel_rfl) ?_
      apply Exists.intro
      refine ⟨?_, ?_, ?_⟩
      · intro U W hC hH
        simp only [HypsU, predsOf, Region.binds, List.filterMap_cons, List.filterMap_nil, if_true, List.nil_append, List.cons_append, List.getD_cons_zero, List.getD_cons_succ] at hH
        simp only [fillPuts, Act.put, List.setIfInBounds_toArray, List.set_cons_zero, List.set_cons_succ, Nat.reduceAdd]
        simp only [hH]
        go_wp2_with fail
        refine ⟨rfl, rfl, MT.refl _ _ _, ?_⟩
        conv => lhs; whnf
        try rfl
      · exact fun _ => rfl
      simp only [List.nil_append, List.cons_append, Nat.reduceAdd]
      simp only [List.nil_append, List.cons_append, Nat.reduceAdd, fillPuts, Act.put, List.setIfInBounds_toArray, List.set_cons_zero, List.set_cons_succ]
      rintro U W hC ⟨h0, h1, h2, h3, ⟨h4, hB⟩, h5, -⟩ -
      simp only [h0, h1, h2, h3, h4, h5]
      obtain ⟨es', clock', hst, hown⟩ := (HEN.out W hC.st).2.2 (.int .i64 (wrap64 (c + 1))) (.lit (.int .i64 (wrap64 (c + 1)))) hB (plainElem_int Tryd.underlying3 (wrap_wf _))
      have hgw := set_grown (.map es' clock') hB
      have HOW := Lib.hid hown
      have HGW := Lib.hid ((HG.out.trans hC.gr).trans hgw)
      clear h0 h1 h2 h3 h4 h5 hB hC hown hgw HG HKB HEN hkbs hmd
      unfold goInt at hst
      go_upto_region 4 with fail
      clear hst
      refine cut_world (fun Z => LogAt b (n0 + k + 1) ((addTo D X k).put (k5 (X k)) (.lit (.int .i64 (wrap64 (c + 1))))) Z ∧ w.grownBy Z (some b)) ⟨HOW.out, HGW.out⟩ ?_
      clear HOW HGW
      rintro Z ⟨hz1, hz2⟩
      have HZ1 := Lib.hid hz1
      have HZ2 := Lib.hid hz2
      clear hz1 hz2
      go_wp2_with fail
      go_roundw
      case rel =>
        have ec : cntD (addTo D X k) (k5 (X k)) = c := by unfold cntD; rw [HE1.out]
        refine ⟨k + 1, by omega, rfl, ?_, HZ2.out⟩
        have := HZ1.out
        show LogAt b (n0 + (k + 1)) (addD (addTo D X k) (X k)) Z
        unfold addD
        rw [ec]
        exact this
      case measure => simp [intOf]; omega
    · have hlt' : ¬ (k : Int) < len := by omega
      obtain rfl : k = len := by omega
      clear hlt
      go_wp2_with fail
      go_end0
      exact ⟨rfl, HL.out, HG.out⟩
end Go.Proofs.YtcibajleknhklaaDoor
end

section
namespace Go.Proofs.YtcibajleknhklaaDoor
open Go.RowKit Go.Proofs.YtcibajleknhklaaDoorW.PrintWords
open RShareTells
set_option linter.unusedSimpArgs false
set_option linter.unusedVariables false
/-- Has one more in the first place that differs? -/
def gtL : List Int → List Int → Bool
  | a :: l, b :: m => if a = b then gtL l m else decide (b < a)
  | _, _ => false
theorem cmp_one (a b : Int) : cmp_Compare_int.f a b = some (if a < b then -1 else if b < a then 1 else 0) := by
  unfold cmp_Compare_int.f cmp_isNaN_int.f
  simp
  split
  · rfl
  · split <;> rfl
theorem drop_cons (l : List Int) (i : Nat) (h : i < l.length) : l.drop i = l.getD i 0 :: l.drop (i + 1) := by
  rw [List.drop_eq_getElem_cons h, List.getD_eq_getElem?_getD, List.getElem?_eq_getElem h]; rfl
theorem cmp_l0 (l m : List Int) (n : Nat) (hl : l.length = n) (hm : m.length = n) (hn : n ≤ 100) : ∀ (d k i : Nat), i + d = n → d < k → ∃ r, slices_Compare_int_int.l0 k l m l n i = some r ∧ (0 < r ↔ gtL (l.drop i) (m.drop i) = true)
  | 0, k + 1, i, h, hk => by
    refine ⟨0, ?_, ?_⟩
    · rw [slices_Compare_int_int.l0, if_neg (by omega), if_neg (by omega)]
    · rw [List.drop_of_length_le (by omega), List.drop_of_length_le (by omega)]
      simp [gtL]
  | d + 1, k + 1, i, h, hk => by
    obtain ⟨r, h1, h2⟩ := cmp_l0 l m n hl hm hn d k (i + 1) (by omega) (by omega)
    rw [slices_Compare_int_int.l0, if_pos (by omega), if_pos (by omega), if_pos (by omega), if_neg (by omega), if_pos (by omega), cmp_one, rd_nat, rd_nat, drop_cons l i (by omega), drop_cons m i (by omega)]
    simp only [Option.bind_some, gtL]
    by_cases e : l.getD i 0 = m.getD i 0
    · have hv : (if l.getD i 0 < m.getD i 0 then (-1 : Int) else if m.getD i 0 < l.getD i 0 then 1 else 0) = 0 := by rw [if_neg (by omega), if_neg (by omega)]
      refine ⟨r, ?_, ?_⟩
      · rw [hv, if_pos rfl, wn_add1 (by omega)]
        exact h1
      · rw [if_pos e]
        exact h2
    · rw [if_neg e]
      by_cases e2 : l.getD i 0 < m.getD i 0
      · have hv : (if l.getD i 0 < m.getD i 0 then (-1 : Int) else if m.getD i 0 < l.getD i 0 then 1 else 0) = -1 := by rw [if_pos e2]
        refine ⟨-1, ?_, ?_⟩
        · rw [hv, if_neg (by omega)]
        · constructor
          · intro h; omega
          · intro h
            have := of_decide_eq_true h
            omega
      · have hv : (if l.getD i 0 < m.getD i 0 then (-1 : Int) else if m.getD i 0 < l.getD i 0 then 1 else 0) = 1 := by rw [if_neg e2, if_pos (by omega)]
        refine ⟨1, ?_, ?_⟩
        · rw [hv, if_neg (by omega)]
        · constructor
          · intro _
            exact decide_eq_true (by omega)
          · intro _; omega
theorem cmp5 (f g : Nat → Int) : ∃ r, slices_Compare_int_int.f 10 (L5 f) (L5 g) = some r ∧ (0 < r ↔ gtL (L5 f) (L5 g) = true) := cmp_l0 (L5 f) (L5 g) 5 rfl rfl (by omega) 5 10 0 (by omega) (by omega)
end Go.Proofs.YtcibajleknhklaaDoor
end

section
namespace Go.Proofs.YtcibajleknhklaaDoor
open Go.RowKit Go.BigFrame Go.WideMaps Go.WideElems Go.ChangeMaps Go.Proofs.YtcibajleknhklaaDoorW.PrintWords
open RShareTells
set_option linter.unusedSimpArgs false
set_option linter.unusedVariables false
theorem gtL_trans : ∀ (a b c : List Int), a.length = b.length → b.length = c.length → gtL a b = true → gtL b c = true → gtL a c = true
  | [], _, _, _, _, h, _ => by simp [gtL] at h
  | x :: a, [], _, h, _, _, _ => by simp at h
  | x :: a, y :: b, [], _, h, _, _ => by simp at h
  | x :: a, y :: b, z :: c, h1, h2, h3, h4 => by
    simp only [gtL] at h3 h4 ⊢
    by_cases e1 : x = y
    · subst e1
      rw [if_pos rfl] at h3
      by_cases e2 : x = z
      · rw [if_pos e2] at h4 ⊢
        exact gtL_trans a b c (by simpa using h1) (by simpa using h2) h3 h4
      · rw [if_neg e2] at h4 ⊢
        exact h4
    · rw [if_neg e1] at h3
      have h3' := of_decide_eq_true h3
      by_cases e2 : y = z
      · subst e2
        rw [if_neg e1]
        exact h3
      · rw [if_neg e2] at h4
        have h4' := of_decide_eq_true h4
        rw [if_neg (by omega)]
        exact decide_eq_true (by omega)
/-- (f, m) stands above (g, n). -/
def better (f : Nat → Int) (m : Int) (g : Nat → Int) (n : Int) : Prop := n < m ∨ (m = n ∧ gtL (L5 f) (L5 g) = true)
theorem better_trans {f g h : Nat → Int} {a b c : Int} (h1 : better f a g b) (h2 : better g b h c) : better f a h c := by
  unfold better at *
  rcases h1 with h1 | ⟨h1, h3⟩
  · left
    rcases h2 with h2 | ⟨h2, h4⟩ <;> omega
  · rcases h2 with h2 | ⟨h2, h4⟩
    · left; omega
    · right
      exact ⟨by omega, gtL_trans (L5 f) (L5 g) (L5 h) rfl rfl h3 h4⟩
/-- An entry of a log. -/
def InLog (D : DataW Unit) (f : Nat → Int) (m : Int) : Prop := wf5 f ∧ ∀ z, D.atKey (k5 f) z = .lit (.int .i64 m)
/-- The best of those that are no more left. -/
structure Best (D : DataW Unit) (left : Lit → Bool) (f : Nat → Int) (n : Int) : Prop where
  top : ∀ g m, InLog D g m → left (k5 g) = false → ¬ better g m f n
  src : (n = 0 ∧ ∀ j, j < 5 → f j = 0) ∨ InLog D f n
theorem Best.step {D : DataW Unit} {left : Lit → Bool} {f x : Nat → Int} {n c : Int} (h : Best D left f n) (hx : InLog D x c) (hb : better x c f n) : Best D (fun z => left z && !z.sameKey (k5 x)) x c := by
  refine ⟨fun g m hg hl hbg => ?_, .inr hx⟩
  by_cases e : left (k5 g) = true
  · rw [e] at hl
    have hs : (k5 g).sameKey (k5 x) = true := by simpa using hl
    have he : k5 g = k5 x := by
      by_cases hq : k5 g = k5 x
      · exact hq
      · have := Go.Maps.sameKey_ne hq
        rw [this] at hs
        cases hs
    have hj := key5_inj hg.1 hx.1 he
    have hm : m = c := by
      have h1 := hg.2 .nil
      have h2 := hx.2 .nil
      rw [he, h2] at h1
      simp only [DataW.lit.injEq, Lit.int.injEq, true_and] at h1
      exact h1.symm
    subst hm
    rw [better, L5_ext g x hj] at hbg
    rcases hbg with h1 | ⟨_, h2⟩
    · omega
    · have : ∀ l : List Int, gtL l l = false := fun l => by
        induction l with
        | nil => rfl
        | cons a l ih => simp [gtL, ih]
      rw [this] at h2
      cases h2
  · exact h.top g m hg (by simpa using e) (better_trans hbg hb)
theorem Best.keep {D : DataW Unit} {left : Lit → Bool} {f x : Nat → Int} {n c : Int} (h : Best D left f n) (hx : InLog D x c) (hb : ¬ better x c f n) : Best D (fun z => left z && !z.sameKey (k5 x)) f n := by
  refine ⟨fun g m hg hl => ?_, h.src⟩
  by_cases e : left (k5 g) = true
  · rw [e] at hl
    have hs : (k5 g).sameKey (k5 x) = true := by simpa using hl
    have he : k5 g = k5 x := by
      by_cases hq : k5 g = k5 x
      · exact hq
      · have := Go.Maps.sameKey_ne hq
        rw [this] at hs
        cases hs
    have hj := key5_inj hg.1 hx.1 he
    have hm : m = c := by
      have h1 := hg.2 .nil
      have h2 := hx.2 .nil
      rw [he, h2] at h1
      simp only [DataW.lit.injEq, Lit.int.injEq, true_and] at h1
      exact h1.symm
    subst hm
    unfold better at hb ⊢
    rw [L5_ext g x hj]
    exact hb
  · exact h.top g m hg (by simpa using e)
theorem wf_of_key {x : Nat → Int} {kl : Lit} (h : keyOf Tryd.prog A5 (.agg (ag i64s 5 x)) = some kl) : wf5 x ∧ kl = k5 x := by
  obtain ⟨f, hf, hw⟩ := key5_inv h
  have hj : ∀ j, j < 5 → x j = f j := fun j hj => by
    simp only [Value.agg.injEq] at hf
    have e := congrArg (fun a : Array Value => a[j]?) hf
    simp only [ag_get _ _ _ j hj, Option.some.injEq, Value.int.injEq, true_and] at e
    exact e
  have hx : wf5 x := fun j hj' => by rw [hj j hj']; exact hw j hj'
  refine ⟨hx, ?_⟩
  rw [key5 x hx] at h
  exact (Option.some.inj h).symm
/-- The call's frame: the result, the best. -/
structure LM (w : World) (B : Nat) (f : Nat → Int) (W : World) : Prop where
  below : Below B w W
  rb : Bx B A5 i64s 5 (fun _ => 0) W
  bb : Bx (B + 1) A5 i64s 5 f W
theorem LM.keepG {w B f} {W W' : World} {r : Nat} (h : LM w B f W) (hg : W.grownBy W' (some r)) (hr : B + 1 < r) : LM w B f W' := by
  have h1 := (block_facts h.bb).2.2
  exact ⟨h.below.trans ⟨hg.os, hg.tape, hg.output, hg.size, fun k hk => hg.block k (by omega) (by intro e; simp at e; omega)⟩, (hg.block _ (by omega) (by intro e; simp at e; omega)).trans h.rb, (hg.block _ h1 (by intro e; simp at e; omega)).trans h.bb⟩
theorem LM.keep {w B f} {W W' : World} (h : LM w B f W) (hb : Below W.heap.size W W') : LM w B f W' := by
  have h1 := (block_facts h.bb).2.2
  exact ⟨h.below.trans (hb.mono (by omega)), h.rb.keep hb, h.bb.keep hb⟩
set_option maxHeartbeats 4000000 in
set_option maxRecDepth 100000 in
theorem logMost (b n0 : Nat) (D : DataW Unit) (w : World) (hL : LogAt b n0 D w) :
    Calls Tryd.prog 34 #[.map (some b)] w fun e w' => ∃ f n, Best D (fun _ => false) f n ∧ e = .returned (.tuple #[.agg (ag i64s 5 f), .int .i64 n]) ∧ Below w.heap.size w w' := by
  have HLO := Lib.hid hL
  have hbl := hL.lt
  clear hL
  go_enter Tryd.func34, Tryd.ntmps34
  go_upto_region 3 with fail
  refine cut_world (fun W => LM w w.heap.size (fun _ => 0) W ∧ LogAt b n0 D W) ⟨⟨by (repeat' (first | (with_reducible exact Below.refl _ _) | (with_reducible assumption) | (with_reducible refine Below.alloc ?_ ?_ _) | (with_reducible refine below_grew ?_ ?_ _) | (with_reducible refine Below.setCell ?_ ?_ _) | (with_reducible refine Below.drew ?_) | (with_reducible refine below_drewN ?_ _) | omega | (simp; done) | (simp; omega))), alloc_two _ _ _, alloc_secondOf _ _ _⟩, HLO.out.kept (below_grown (by (repeat' (first | (with_reducible exact Below.refl _ _) | (with_reducible assumption) | (with_reducible refine Below.alloc ?_ ?_ _) | (with_reducible refine below_grew ?_ ?_ _) | (with_reducible refine Below.setCell ?_ ?_ _) | (with_reducible refine Below.drew ?_) | (with_reducible refine below_drewN ?_ _) | omega | (simp; done) | (simp; omega)))) none) (by simp)⟩ ?_
  rintro V ⟨hV, hL⟩
  generalize hBd : w.heap.size = B at *
  have HBd := Lib.hid hBd
  have HV := Lib.hid hV
  have HL := Lib.hid hL
  have hvs := (block_facts hV.bb).2.2
  clear hBd hV hL HLO
  go_upto_region 4 with (at_range; refine wpList_range_own _ rfl _ TL rfl A5 TI keyed5 underTL _ b n0 D rfl HL.out ?_; intro w0 hrg0 hg0 hs0; have HRG := Lib.hid hrg0; have HG0 := Lib.hid hg0; have HS0 := Lib.hid hs0; clear hrg0 hg0 hs0)
  have hlm := HV.out.keep (W' := w0) ⟨HG0.out.os, HG0.out.tape, HG0.out.output, HG0.out.size, fun k hk => HG0.out.block k hk (by simp)⟩
  obtain ⟨r, hr⟩ : ∃ r, V.heap.size = r := ⟨_, rfl⟩
  rw [hr] at hvs HRG
  simp only [hr]
  have hrb : B + 1 < r := hvs
  have HLM := Lib.hid hlm
  clear hr hlm HV HL HG0 HS0 hvs
  have hinv : ∀ (v : Value) (y : DataW Unit × List MemPlace), plainElem Tryd.prog TI v = some y → ∃ c : Int, v = .int .i64 c := fun v y h => by
    obtain ⟨c, h1, _⟩ := plainElem_int_inv Tryd.underlying3 h
    exact ⟨c, h1⟩
  have hinvK : ∀ (key : Value) (kl : Lit), keyOf Tryd.prog A5 key = some kl → ∃ x : Nat → Int, key = .agg (ag i64s 5 x) := fun key kl h => by
    obtain ⟨x, h1, _⟩ := key5_inv h
    exact ⟨x, h1⟩
  have HINV := Lib.hid hinv
  have HINVK := Lib.hid hinvK
  clear hinv hinvK
  go_frame
  go_loopw [5, 6, 7, 10] (fun v5 v6 v7 v10 wr => ∃ (f : Nat → Int) (n : Int) (left : Lit → Bool) (cnt : Nat), v5 = .int .i64 n ∧ wr.ranges Tryd.prog A5 (plainElem Tryd.prog TI) b r n0 D left cnt ∧ Best D left f n ∧ LM w B f wr) (fun _ _ _ _ wr => wr.rangeLeft b r)
  case atStart =>
    refine ⟨fun _ => 0, 0, _, _, rfl, HRG.out, ⟨fun g m hg hl => ?_, .inl ⟨rfl, fun _ _ => rfl⟩⟩, HLM.out⟩
    have h1 := hg.2 .nil
    rw [Go.Maps.atKey_of_not_has hl] at h1
    cases h1
  case round =>
    clear HRG HLM
    obtain ⟨f, n, left, cnt, rfl, hrg, hbest, hlm⟩ := hrel
    have HRG := Lib.hid hrg
    have HBE := Lib.hid hbest
    have HLM := Lib.hid hlm
    clear hrg hbest hlm
    go_upto_region 5 with (at_next; refine wpList_next_ranges _ rfl _ rfl A5 keyed5 (plainElem Tryd.prog TI) (fun x : Nat → Int => .agg (ag i64s 5 x)) (fun c : Int => .int .i64 c) HINVK.out HINV.out b r n0 D left cnt rfl HRG.out ?_ ?_)
    · intro hc0 hl
      have HLEFT := Lib.hid hl
      clear hc0 hl
      go_wp2_with (first | ((with_reducible refine gate_load A5 _ rfl ?_); refine load_row_g rfl A5 _ rfl (B + 1) rfl _ (ag i64s 5 f) (0, 0) _ HLM.out.bb Tryd.underlying55 rfl ?hin ?_; (case hin => exact info5_ag _)) | (refine wpList_store_mid rfl A5 _ _ rfl B 0 (ag i64s 5 f) rfl rfl ?hth ?hin3 ?hon ?_; (case hth => exact there_row HLM.out.rb _ (by rw [ag_size, ag_size]; exact Nat.le_refl _)); (case hin3 => exact info5_ag _); (case hon => exact ag_one i64s 5 _)))
      have q1 := cells_all HLM.out.rb (N := 5) (ag_size _ _ _) (cs := ag i64s 5 f) (ag_size _ _ _)
      have hfinb := (only_setCells wr B 0 (ag i64s 5 f).toList).below HLM.out.below (Nat.le_refl _)
      refine bodyPost_ret (v := .tuple #[.agg (ag i64s 5 f), .int .i64 n]) ?_ rfl ⟨f, n, ⟨fun g m hg _ => HBE.out.top g m hg (HLEFT.out _), HBE.out.src⟩, rfl, by rw [HBd.out]; exact hfinb⟩
      exact results_row_tmp rfl _ _ B _ _ _ _ _ rfl rfl q1 Tryd.underlying55 rfl (info5_ag _)
    · rintro x c kl a ps w1 cnt1 hkey hlk hv hat hrg1 hlt hgr hsz hen
      obtain ⟨hx, rfl⟩ := wf_of_key hkey
      obtain ⟨c', hc', ha, -⟩ := plainElem_int_inv Tryd.underlying3 hv
      simp only [Value.int.injEq, true_and] at hc'
      subst hc'
      simp only [Prod.mk.injEq] at ha
      have hin : InLog D x c := ⟨hx, fun z => by rw [hat z, ha.1]⟩
      have HIN := Lib.hid hin
      have hlm1 := HLM.out.keepG hgr hrb
      have HLM1 := Lib.hid hlm1
      have HRG1 := Lib.hid hrg1
      have HLT := Lib.hid hlt
      have HX := Lib.hid hx
      have hrw := hrg1.lt
      clear hkey hlk hv hat ha hin hlm1 hrg1 hlt hgr hsz HLM hx
      go_upto_region 6 with (refine wpList_store_mid rfl A5 _ _ rfl w1.heap.size 0 (ag i64s 5 x) rfl rfl ?hth ?hin3 ?hon ?_; (case hth => exact there_row (alloc_at _ _) _ (by rw [ag_size]; exact Nat.le_refl _)); (case hin3 => exact info5_ag _); (case hon => exact ag_one i64s 5 _))
      obtain ⟨q1, q2⟩ := k5_new w1 x
      refine cut_world (fun W => W.ranges Tryd.prog A5 (plainElem Tryd.prog TI) b r n0 D (fun z => left z && !z.sameKey (k5 x)) cnt1 ∧ LM w B f W ∧ Bx w1.heap.size A5 i64s 5 x W) ⟨HRG1.out.kept (below_grown q1 none) (by simp) (by simp), HLM1.out.keep q1, q2⟩ ?_
      clear q1 q2 HRG1 HLM1 hen
      have hkr : r < w1.heap.size := hrw
      generalize w1.heap.size = kb at *
      rintro V7 ⟨hrg, hlm, hkb⟩
      have HRG2 := Lib.hid hrg
      have HLM2 := Lib.hid hlm
      have HKB := Lib.hid hkb
      clear hrg hlm hkb hrw
      by_cases hcn : n < c
      · have HBS := Lib.hid (HBE.out.step HIN.out (.inl hcn))
        go_quiet (fail)
        go_upto_region 7 with fail
        refine cut_world (fun Z => Z.ranges Tryd.prog A5 (plainElem Tryd.prog TI) b r n0 D (fun z => left z && !z.sameKey (k5 x)) cnt1 ∧ LM w B f Z ∧ Bx kb A5 i64s 5 x Z) ⟨HRG2.out.kept (below_grown (show Below V7.heap.size V7 (V7.drewN nq) from below_drewN (Below.refl _ _) _) none) (by simp) (by simp), HLM2.out.keep (show Below V7.heap.size V7 (V7.drewN nq) from below_drewN (Below.refl _ _) _), HKB.out.keep (show Below V7.heap.size V7 (V7.drewN nq) from below_drewN (Below.refl _ _) _)⟩ ?_
        clear HRG2 HLM2 HKB
        rintro Z ⟨hrg, hlm, hkb⟩
        have HRG3 := Lib.hid hrg
        have HLM3 := Lib.hid hlm
        have HKB3 := Lib.hid hkb
        clear hrg hlm hkb
        go_wp2_with (first | ((with_reducible refine gate_load A5 _ rfl ?_); refine load_row_g rfl A5 _ rfl kb rfl _ (ag i64s 5 x) (0, 0) _ HKB3.out Tryd.underlying55 rfl ?hin ?_; (case hin => exact info5_ag _)) | (refine wpList_store_mid rfl A5 _ _ rfl (B + 1) 0 (ag i64s 5 x) rfl rfl ?hth ?hin3 ?hon ?_; (case hth => exact there_row HLM3.out.bb _ (by rw [ag_size, ag_size]; exact Nat.le_refl _)); (case hin3 => exact info5_ag _); (case hon => exact ag_one i64s 5 _)))
        have ho := only_setCells Z (B + 1) 0 (ag i64s 5 x).toList
        have hgo : Z.grownBy (Z.setCells (B + 1) 0 (ag i64s 5 x).toList) (some (B + 1)) := ⟨ho.os, ho.tape, ho.output, by rw [ho.size]; exact Nat.le_refl _, fun k _ hk => ho.block k (fun e => hk (by rw [e]))⟩
        have hrgn := HRG3.out.kept hgo (by intro e; simp at e; omega) (by intro e; simp at e; omega)
        go_roundw
        case rel => exact ⟨x, c, _, cnt1, rfl, hrgn, HBS.out, ⟨ho.below HLM3.out.below (by omega), (ho.block _ (by omega)).trans HLM3.out.rb, cells_all HLM3.out.bb (N := 5) (ag_size _ _ _) (ag_size _ _ _)⟩⟩
        case measure => rw [hrgn.left_eq, HRG.out.left_eq]; exact HLT.out
      · by_cases hce : c = n
        · subst hce
          obtain ⟨rr, hr1, hr2⟩ := cmp5 x f
          have hcx := bx_reads HKB.out .i64 0 5 (by omega) (by omega) (fun _ _ _ => rfl)
          have hcf := bx_reads HLM2.out.bb .i64 0 5 (by omega) (by omega) (fun _ _ _ => rfl)
          have ex : ((List.range 5).map fun i => x (0 + i)) = L5 x := rfl
          have ef : ((List.range 5).map fun i => f (0 + i)) = L5 f := rfl
          rw [ex] at hcx
          rw [ef] at hcf
          have HCMP := Lib.hid (fun (W : World) (hC : Below V7.heap.size V7 W) => (slices_Compare_int_int.calls 10 (some ⟨kb, 0, none⟩) 5 (L5 x) (some ⟨B + 1, 0, none⟩) 5 (L5 f) rr W (Kd.C_below hcx hC) (Nat.le_refl 5) (Kd.C_below hcf hC) (Nat.le_refl 5) hr1).mono fun e w' ⟨h1, h2⟩ => (⟨h1, h2.below⟩ : e = Ending.returned (.int .i64 rr) ∧ Below W.heap.size W w'))
          have HR2 := Lib.hid hr2
          clear hr1 hr2 hcx hcf ex ef
          have hbk := (block_facts HKB.out).2.2
          have hbf := (block_facts HLM2.out.bb).2.2
          clear hcn
          refine wp_region_inv [] (fun W => Below V7.heap.size V7 W) (fun W W' => Below W.heap.size W W') 13 (by kernel_rfl) (by kernel_rfl) (by kernel_rfl) ((Below.refl _ _).drew) (fun W W' h h' => h.trans (h'.mono h.size)) (fun _ _ h => h.size) ?_
          simp only [List.take_succ_cons, List.take_zero, List.drop_succ_cons, List.drop_zero]
          refine wpInv_det (by kernel_rfl) (by kernel_rfl) ?_
          apply Exists.intro
          refine ⟨?_, ?_, ?_⟩
          · intro U W hC hH
            have hc1 := (bcell hC).1
            have hf1 := (bcell hC).2
            simp only [HypsU, predsOf, Region.binds, List.filterMap_cons, List.filterMap_nil, if_true, List.nil_append, List.cons_append, List.getD_cons_zero, List.getD_cons_succ] at hH
            simp only [fillPuts, Act.put, List.setIfInBounds_toArray, List.set_cons_zero, List.set_cons_succ, Nat.reduceAdd]
            go_wp2_with fail
            refine ⟨rfl, rfl, by (repeat' (first | (with_reducible exact Below.refl _ _) | (with_reducible assumption) | (with_reducible refine Below.alloc ?_ ?_ _) | (with_reducible refine below_grew ?_ ?_ _) | (with_reducible refine Below.setCell ?_ ?_ _) | (with_reducible refine Below.drew ?_) | (with_reducible refine below_drewN ?_ _) | omega | (simp; done) | (simp; omega))), ?_⟩
            conv => lhs; whnf
            try rfl
          · exact fun _ => rfl
          simp only [List.nil_append, List.cons_append, Nat.reduceAdd]
          refine wpInv_det (by kernel_rfl) (by kernel_rfl) ?_
          apply Exists.intro
          refine ⟨?_, ?_, ?_⟩
          · intro U W hC hH
            have hc1 := (bcell hC).1
            have hf1 := (bcell hC).2
            simp only [HypsU, predsOf, Region.binds, List.filterMap_cons, List.filterMap_nil, if_true, List.nil_append, List.cons_append, List.getD_cons_zero, List.getD_cons_succ] at hH
            simp only [fillPuts, Act.put, List.setIfInBounds_toArray, List.set_cons_zero, List.set_cons_succ, Nat.reduceAdd]
            go_wp2_with fail
            refine ⟨rfl, rfl, by (repeat' (first | (with_reducible exact Below.refl _ _) | (with_reducible assumption) | (with_reducible refine Below.alloc ?_ ?_ _) | (with_reducible refine below_grew ?_ ?_ _) | (with_reducible refine Below.setCell ?_ ?_ _) | (with_reducible refine Below.drew ?_) | (with_reducible refine below_drewN ?_ _) | omega | (simp; done) | (simp; omega))), ?_⟩
            conv => lhs; whnf
            try rfl
          · exact fun _ => rfl
          simp only [List.nil_append, List.cons_append, Nat.reduceAdd]
          refine wpInv_det (by kernel_rfl) (by kernel_rfl) ?_
          apply Exists.intro
          refine ⟨?_, ?_, ?_⟩
          · intro U W hC hH
            have hc1 := (bcell hC).1
            have hf1 := (bcell hC).2
            simp only [HypsU, predsOf, Region.binds, List.filterMap_cons, List.filterMap_nil, if_true, List.nil_append, List.cons_append, List.getD_cons_zero, List.getD_cons_succ] at hH
            simp only [fillPuts, Act.put, List.setIfInBounds_toArray, List.set_cons_zero, List.set_cons_succ, Nat.reduceAdd]
            simp only [hH]; go_wp2_with fail
            refine ⟨rfl, rfl, by (repeat' (first | (with_reducible exact Below.refl _ _) | (with_reducible assumption) | (with_reducible refine Below.alloc ?_ ?_ _) | (with_reducible refine below_grew ?_ ?_ _) | (with_reducible refine Below.setCell ?_ ?_ _) | (with_reducible refine Below.drew ?_) | (with_reducible refine below_drewN ?_ _) | omega | (simp; done) | (simp; omega))), ?_⟩
            conv => lhs; whnf
            try rfl
          · exact fun _ => rfl
          simp only [List.nil_append, List.cons_append, Nat.reduceAdd]
          refine wpInv_det (by kernel_rfl) (by kernel_rfl) ?_
          apply Exists.intro
          refine ⟨?_, ?_, ?_⟩
          · intro U W hC hH
            have hc1 := (bcell hC).1
            have hf1 := (bcell hC).2
            simp only [HypsU, predsOf, Region.binds, List.filterMap_cons, List.filterMap_nil, if_true, List.nil_append, List.cons_append, List.getD_cons_zero, List.getD_cons_succ] at hH
            simp only [fillPuts, Act.put, List.setIfInBounds_toArray, List.set_cons_zero, List.set_cons_succ, Nat.reduceAdd]
            simp only [hH]; go_wp2_with fail
            refine ⟨rfl, rfl, by (repeat' (first | (with_reducible exact Below.refl _ _) | (with_reducible assumption) | (with_reducible refine Below.alloc ?_ ?_ _) | (with_reducible refine below_grew ?_ ?_ _) | (with_reducible refine Below.setCell ?_ ?_ _) | (with_reducible refine Below.drew ?_) | (with_reducible refine below_drewN ?_ _) | omega | (simp; done) | (simp; omega))), ?_⟩
            conv => lhs; whnf
            try rfl
          · exact fun _ => rfl
          simp only [List.nil_append, List.cons_append, Nat.reduceAdd]
          refine wpInv_det (by kernel_rfl) (by kernel_rfl) ?_
          apply Exists.intro
          refine ⟨?_, ?_, ?_⟩
          · intro U W hC hH
            have hc1 := (bcell hC).1
            have hf1 := (bcell hC).2
            simp only [HypsU, predsOf, Region.binds, List.filterMap_cons, List.filterMap_nil, if_true, List.nil_append, List.cons_append, List.getD_cons_zero, List.getD_cons_succ] at hH
            simp only [fillPuts, Act.put, List.setIfInBounds_toArray, List.set_cons_zero, List.set_cons_succ, Nat.reduceAdd]
            simp only [hH]; go_wp2_with fail
            refine ⟨rfl, rfl, by (repeat' (first | (with_reducible exact Below.refl _ _) | (with_reducible assumption) | (with_reducible refine Below.alloc ?_ ?_ _) | (with_reducible refine below_grew ?_ ?_ _) | (with_reducible refine Below.setCell ?_ ?_ _) | (with_reducible refine Below.drew ?_) | (with_reducible refine below_drewN ?_ _) | omega | (simp; done) | (simp; omega))), ?_⟩
            conv => lhs; whnf
            try rfl
          · exact fun _ => rfl
          simp only [List.nil_append, List.cons_append, Nat.reduceAdd]
          refine wpInv_det (by kernel_rfl) (by kernel_rfl) ?_
          apply Exists.intro
          refine ⟨?_, ?_, ?_⟩
          · intro U W hC hH
            have hc1 := (bcell hC).1
            have hf1 := (bcell hC).2
            simp only [HypsU, predsOf, Region.binds, List.filterMap_cons, List.filterMap_nil, if_true, List.nil_append, List.cons_append, List.getD_cons_zero, List.getD_cons_succ] at hH
            simp only [fillPuts, Act.put, List.setIfInBounds_toArray, List.set_cons_zero, List.set_cons_succ, Nat.reduceAdd]
            simp only [hH]; go_wp2_with fail
            refine ⟨rfl, rfl, by (repeat' (first | (with_reducible exact Below.refl _ _) | (with_reducible assumption) | (with_reducible refine Below.alloc ?_ ?_ _) | (with_reducible refine below_grew ?_ ?_ _) | (with_reducible refine Below.setCell ?_ ?_ _) | (with_reducible refine Below.drew ?_) | (with_reducible refine below_drewN ?_ _) | omega | (simp; done) | (simp; omega))), ?_⟩
            conv => lhs; whnf
            try rfl
          · exact fun _ => rfl
          simp only [List.nil_append, List.cons_append, Nat.reduceAdd]
          refine wpInv_det (by kernel_rfl) (by kernel_rfl) ?_
          apply Exists.intro
          refine ⟨?_, ?_, ?_⟩
          · intro U W hC hH
            have hc1 := (bcell hC).1
            have hf1 := (bcell hC).2
            simp only [HypsU, predsOf, Region.binds, List.filterMap_cons, List.filterMap_nil, if_true, List.nil_append, List.cons_append, List.getD_cons_zero, List.getD_cons_succ] at hH
            simp only [fillPuts, Act.put, List.setIfInBounds_toArray, List.set_cons_zero, List.set_cons_succ, Nat.reduceAdd]
            simp only [hH]; go_wp2_with fail
            refine ⟨rfl, rfl, by (repeat' (first | (with_reducible exact Below.refl _ _) | (with_reducible assumption) | (with_reducible refine Below.alloc ?_ ?_ _) | (with_reducible refine below_grew ?_ ?_ _) | (with_reducible refine Below.setCell ?_ ?_ _) | (with_reducible refine Below.drew ?_) | (with_reducible refine below_drewN ?_ _) | omega | (simp; done) | (simp; omega))), ?_⟩
            conv => lhs; whnf
            try rfl
          · exact fun _ => rfl
          simp only [List.nil_append, List.cons_append, Nat.reduceAdd]
          refine wpInv_det (by kernel_rfl) (by kernel_rfl) ?_
          apply Exists.intro
          refine ⟨?_, ?_, ?_⟩
          · intro U W hC hH
            have hc1 := (bcell hC).1
            have hf1 := (bcell hC).2
            simp only [HypsU, predsOf, Region.binds, List.filterMap_cons, List.filterMap_nil, if_true, List.nil_append, List.cons_append, List.getD_cons_zero, List.getD_cons_succ] at hH
            simp only [fillPuts, Act.put, List.setIfInBounds_toArray, List.set_cons_zero, List.set_cons_succ, Nat.reduceAdd]
            simp only [hH]; go_wp2_with fail
            refine ⟨rfl, rfl, by (repeat' (first | (with_reducible exact Below.refl _ _) | (with_reducible assumption) | (with_reducible refine Below.alloc ?_ ?_ _) | (with_reducible refine below_grew ?_ ?_ _) | (with_reducible refine Below.setCell ?_ ?_ _) | (with_reducible refine Below.drew ?_) | (with_reducible refine below_drewN ?_ _) | omega | (simp; done) | (simp; omega))), ?_⟩
            conv => lhs; whnf
            try rfl
          · exact fun _ => rfl
          simp only [List.nil_append, List.cons_append, Nat.reduceAdd]
          refine wpInv_det (by kernel_rfl) (by kernel_rfl) ?_
          apply Exists.intro
          refine ⟨?_, ?_, ?_⟩
          · intro U W hC hH
            have hc1 := (bcell hC).1
            have hf1 := (bcell hC).2
            simp only [HypsU, predsOf, Region.binds, List.filterMap_cons, List.filterMap_nil, if_true, List.nil_append, List.cons_append, List.getD_cons_zero, List.getD_cons_succ] at hH
            simp only [fillPuts, Act.put, List.setIfInBounds_toArray, List.set_cons_zero, List.set_cons_succ, Nat.reduceAdd]
            simp only [hH]; go_wp2_with fail
            refine ⟨rfl, rfl, by (repeat' (first | (with_reducible exact Below.refl _ _) | (with_reducible assumption) | (with_reducible refine Below.alloc ?_ ?_ _) | (with_reducible refine below_grew ?_ ?_ _) | (with_reducible refine Below.setCell ?_ ?_ _) | (with_reducible refine Below.drew ?_) | (with_reducible refine below_drewN ?_ _) | omega | (simp; done) | (simp; omega))), ?_⟩
            conv => lhs; whnf
            try rfl
          · exact fun _ => rfl
          simp only [List.nil_append, List.cons_append, Nat.reduceAdd]
          refine wpInv_det (by kernel_rfl) (by kernel_rfl) ?_
          apply Exists.intro
          refine ⟨?_, ?_, ?_⟩
          · intro U W hC hH
            have hc1 := (bcell hC).1
            have hf1 := (bcell hC).2
            simp only [HypsU, predsOf, Region.binds, List.filterMap_cons, List.filterMap_nil, if_true, List.nil_append, List.cons_append, List.getD_cons_zero, List.getD_cons_succ] at hH
            simp only [fillPuts, Act.put, List.setIfInBounds_toArray, List.set_cons_zero, List.set_cons_succ, Nat.reduceAdd]
            simp only [hH]; go_wp2_with fail
            refine ⟨rfl, rfl, by (repeat' (first | (with_reducible exact Below.refl _ _) | (with_reducible assumption) | (with_reducible refine Below.alloc ?_ ?_ _) | (with_reducible refine below_grew ?_ ?_ _) | (with_reducible refine Below.setCell ?_ ?_ _) | (with_reducible refine Below.drew ?_) | (with_reducible refine below_drewN ?_ _) | omega | (simp; done) | (simp; omega))), ?_⟩
            conv => lhs; whnf
            try rfl
          · exact fun _ => rfl
          simp only [List.nil_append, List.cons_append, Nat.reduceAdd]
          refine wpInv_det (by kernel_rfl) (by kernel_rfl) ?_
          apply Exists.intro
          refine ⟨?_, ?_, ?_⟩
          · intro U W hC hH
            have hc1 := (bcell hC).1
            have hf1 := (bcell hC).2
            simp only [HypsU, predsOf, Region.binds, List.filterMap_cons, List.filterMap_nil, if_true, List.nil_append, List.cons_append, List.getD_cons_zero, List.getD_cons_succ] at hH
            simp only [fillPuts, Act.put, List.setIfInBounds_toArray, List.set_cons_zero, List.set_cons_succ, Nat.reduceAdd]
            simp only [hH]; go_wp2_with fail; refine (HCMP.out _ hC).mono ?_; rintro e w' ⟨rfl, hb1⟩; obtain ⟨x1, rfl⟩ := below_as_grew hb1; clear hb1; go_wp2_with fail
            refine ⟨rfl, rfl, by (repeat' (first | (with_reducible exact Below.refl _ _) | (with_reducible assumption) | (with_reducible refine Below.alloc ?_ ?_ _) | (with_reducible refine below_grew ?_ ?_ _) | (with_reducible refine Below.setCell ?_ ?_ _) | (with_reducible refine Below.drew ?_) | (with_reducible refine below_drewN ?_ _) | omega | (simp; done) | (simp; omega))), ?_⟩
            conv => lhs; whnf
            try rfl
          · exact fun _ => rfl
          simp only [List.nil_append, List.cons_append, Nat.reduceAdd]
          refine wpInv_det (by kernel_rfl) (by kernel_rfl) ?_
          apply Exists.intro
          refine ⟨?_, ?_, ?_⟩
          · intro U W hC hH
            have hc1 := (bcell hC).1
            have hf1 := (bcell hC).2
            simp only [HypsU, predsOf, Region.binds, List.filterMap_cons, List.filterMap_nil, if_true, List.nil_append, List.cons_append, List.getD_cons_zero, List.getD_cons_succ] at hH
            simp only [fillPuts, Act.put, List.setIfInBounds_toArray, List.set_cons_zero, List.set_cons_succ, Nat.reduceAdd]
            simp only [hH]; go_wp2_with fail
            refine ⟨rfl, rfl, by (repeat' (first | (with_reducible exact Below.refl _ _) | (with_reducible assumption) | (with_reducible refine Below.alloc ?_ ?_ _) | (with_reducible refine below_grew ?_ ?_ _) | (with_reducible refine Below.setCell ?_ ?_ _) | (with_reducible refine Below.drew ?_) | (with_reducible refine below_drewN ?_ _) | omega | (simp; done) | (simp; omega))), ?_⟩
            conv => lhs; whnf
            try rfl
          · exact fun _ => rfl
          simp only [List.nil_append, List.cons_append, Nat.reduceAdd]
          refine wpInv_det (by kernel_rfl) (by kernel_rfl) ?_
          apply Exists.intro
          refine ⟨?_, ?_, ?_⟩
          · intro U W hC hH
            have hc1 := (bcell hC).1
            have hf1 := (bcell hC).2
            simp only [HypsU, predsOf, Region.binds, List.filterMap_cons, List.filterMap_nil, if_true, List.nil_append, List.cons_append, List.getD_cons_zero, List.getD_cons_succ] at hH
            simp only [fillPuts, Act.put, List.setIfInBounds_toArray, List.set_cons_zero, List.set_cons_succ, Nat.reduceAdd]
            simp only [hH]; go_wp2_with fail
            refine ⟨rfl, rfl, by (repeat' (first | (with_reducible exact Below.refl _ _) | (with_reducible assumption) | (with_reducible refine Below.alloc ?_ ?_ _) | (with_reducible refine below_grew ?_ ?_ _) | (with_reducible refine Below.setCell ?_ ?_ _) | (with_reducible refine Below.drew ?_) | (with_reducible refine below_drewN ?_ _) | omega | (simp; done) | (simp; omega))), ?_⟩
            conv => lhs; whnf
            try rfl
          · exact fun _ => rfl
          simp only [List.nil_append, List.cons_append, Nat.reduceAdd]
          simp only [List.nil_append, List.cons_append, Nat.reduceAdd, fillPuts, Act.put, List.setIfInBounds_toArray, List.set_cons_zero, List.set_cons_succ]
          rintro U W hC ⟨h0, h1, h2, h3, h4, h5, h6, h7, h8, h9, h10, h11, h12, -⟩ -
          simp only [h0, h1, h2, h3, h4, h5, h6, h7, h8, h9, h10, h11, h12]
          have HCW := Lib.hid hC
          clear h0 h1 h2 h3 h4 h5 h6 h7 h8 h9 h10 h11 h12 hC HCMP hbk hbf
          by_cases hgt : 0 < rr
          · have HBS := Lib.hid (HBE.out.step HIN.out (.inr ⟨rfl, HR2.out.1 hgt⟩))
            go_upto_region 7 with fail
            refine cut_world (fun Z => Z.ranges Tryd.prog A5 (plainElem Tryd.prog TI) b r n0 D (fun z => left z && !z.sameKey (k5 x)) cnt1 ∧ LM w B f Z ∧ Bx kb A5 i64s 5 x Z) ⟨HRG2.out.kept (below_grown HCW.out none) (by simp) (by simp), HLM2.out.keep HCW.out, HKB.out.keep HCW.out⟩ ?_
            clear HRG2 HLM2 HKB HCW
            rintro Z ⟨hrg, hlm, hkb⟩
            have HRG3 := Lib.hid hrg
            have HLM3 := Lib.hid hlm
            have HKB3 := Lib.hid hkb
            clear hrg hlm hkb
            go_wp2_with (first | ((with_reducible refine gate_load A5 _ rfl ?_); refine load_row_g rfl A5 _ rfl kb rfl _ (ag i64s 5 x) (0, 0) _ HKB3.out Tryd.underlying55 rfl ?hin ?_; (case hin => exact info5_ag _)) | (refine wpList_store_mid rfl A5 _ _ rfl (B + 1) 0 (ag i64s 5 x) rfl rfl ?hth ?hin3 ?hon ?_; (case hth => exact there_row HLM3.out.bb _ (by rw [ag_size, ag_size]; exact Nat.le_refl _)); (case hin3 => exact info5_ag _); (case hon => exact ag_one i64s 5 _)))
            have ho := only_setCells Z (B + 1) 0 (ag i64s 5 x).toList
            have hgo : Z.grownBy (Z.setCells (B + 1) 0 (ag i64s 5 x).toList) (some (B + 1)) := ⟨ho.os, ho.tape, ho.output, by rw [ho.size]; exact Nat.le_refl _, fun k _ hk => ho.block k (fun e => hk (by rw [e]))⟩
            have hrgn := HRG3.out.kept hgo (by intro e; simp at e; omega) (by intro e; simp at e; omega)
            go_roundw
            case rel => exact ⟨x, c, _, cnt1, rfl, hrgn, HBS.out, ⟨ho.below HLM3.out.below (by omega), (ho.block _ (by omega)).trans HLM3.out.rb, cells_all HLM3.out.bb (N := 5) (ag_size _ _ _) (ag_size _ _ _)⟩⟩
            case measure => rw [hrgn.left_eq, HRG.out.left_eq]; exact HLT.out
          · have HBK := Lib.hid (HBE.out.keep HIN.out (by unfold better; rintro (h | ⟨-, h⟩); (omega); (exact hgt (HR2.out.2 h))))
            go_wp2_with fail
            have hrgn := HRG2.out.kept (below_grown HCW.out none) (by simp) (by simp)
            go_roundw
            case rel => exact ⟨f, c, _, cnt1, rfl, hrgn, HBK.out, HLM2.out.keep HCW.out⟩
            case measure => rw [hrgn.left_eq, HRG.out.left_eq]; exact HLT.out
        · have hlt2 : c < n := by omega
          have HBK := Lib.hid (HBE.out.keep HIN.out (by unfold better; omega))
          go_quiet (fail)
          go_wp2_with fail
          have hbv := (show Below V7.heap.size V7 (V7.drewN nq) from below_drewN (Below.refl _ _) _)
          have hrgn := HRG2.out.kept (below_grown hbv none) (by simp) (by simp)
          go_roundw
          case rel => exact ⟨f, n, _, cnt1, rfl, hrgn, HBK.out, HLM2.out.keep hbv⟩
          case measure => rw [hrgn.left_eq, HRG.out.left_eq]; exact HLT.out
end Go.Proofs.YtcibajleknhklaaDoor
end

section
namespace Go.Proofs.YtcibajleknhklaaDoor
open Go.RowKit Go.WideMaps Go.WideElems Go.ChangeMaps
set_option linter.unusedSimpArgs false
set_option linter.unusedVariables false
/-- How often it came among so many. -/
def cntTo (X : Nat → Nat → Int) (f : Nat → Int) : Nat → Nat
  | 0 => 0
  | n + 1 => cntTo X f n + (if L5 (X n) = L5 f then 1 else 0)
theorem cntTo_le (X : Nat → Nat → Int) (f : Nat → Int) : ∀ n, cntTo X f n ≤ n
  | 0 => Nat.le_refl 0
  | n + 1 => by rw [cntTo]; have := cntTo_le X f n; split <;> omega
theorem L5_inj {f g : Nat → Int} (h : L5 f = L5 g) : ∀ j, j < 5 → f j = g j := fun j hj => by
  rw [← L5_at f j hj, ← L5_at g j hj, h]
theorem k5_of_L5 {f g : Nat → Int} (h : L5 f = L5 g) : k5 f = k5 g := by
  have := L5_inj h
  unfold k5
  rw [this 0 (by omega), this 1 (by omega), this 2 (by omega), this 3 (by omega), this 4 (by omega)]
theorem addTo_map (X : Nat → Nat → Int) : ∀ n, Go.Maps.IsMap (addTo (.map []) X n)
  | 0 => Go.Maps.isMap_empty
  | n + 1 => (addTo_map X n).put _ _
theorem at_add (X : Nat → Nat → Int) (f : Nat → Int) (hf : wf5 f) : ∀ (n : Nat), n ≤ 1000 → (∀ i, i < n → wf5 (X i)) → ∀ z, (addTo (.map []) X n).atKey (k5 f) z = if cntTo X f n = 0 then z else .lit (.int .i64 (cntTo X f n))
  | 0, _, _, z => by
    rw [cntTo, if_pos rfl]
    exact Go.Maps.atKey_of_not_has (by rfl) z
  | n + 1, hn, hw, z => by
    have ih := at_add X f hf n (by omega) (fun i hi => hw i (by omega))
    have hle := cntTo_le X f n
    show ((addTo (.map []) X n).put (k5 (X n)) _).atKey (k5 f) z = _
    rw [cntTo]
    by_cases e : L5 (X n) = L5 f
    · rw [if_pos e, if_neg (by omega), k5_of_L5 e, Go.Maps.atKey_put_same (addTo_map X n) (keyed5.key (key5 f hf))]
      have ec : cntD (addTo (.map []) X n) (k5 f) = cntTo X f n := by
        unfold cntD
        rw [ih]
        by_cases h0 : cntTo X f n = 0
        · rw [if_pos h0, h0]; rfl
        · rw [if_neg h0]
      rw [ec]
      congr 2
      have : wrap64 ((cntTo X f n : Int) + 1) = ((cntTo X f n + 1 : Nat) : Int) := wn_add1 (by omega)
      rw [this]
    · rw [if_neg e, Nat.add_zero, Go.Maps.atKey_put_other (fun h => e (L5_ext _ _ (fun j hj => (key5_inj hf (hw n (by omega)) h j hj).symm)))]
      exact ih z
/-- What is in a log. -/
theorem inLog_iff (X : Nat → Nat → Int) (n : Nat) (hn : n ≤ 1000) (hw : ∀ i, i < n → wf5 (X i)) (f : Nat → Int) (m : Int) : InLog (addTo (.map []) X n) f m ↔ wf5 f ∧ m = cntTo X f n ∧ 0 < cntTo X f n := by
  constructor
  · rintro ⟨hf, h⟩
    have h1 := h .nil
    rw [at_add X f hf n hn hw] at h1
    by_cases h0 : cntTo X f n = 0
    · rw [if_pos h0] at h1
      cases h1
    · rw [if_neg h0] at h1
      simp only [DataW.lit.injEq, Lit.int.injEq, true_and] at h1
      exact ⟨hf, h1.symm, by omega⟩
  · rintro ⟨hf, rfl, h0⟩
    refine ⟨hf, fun z => ?_⟩
    rw [at_add X f hf n hn hw, if_neg (by omega)]
end Go.Proofs.YtcibajleknhklaaDoor
end

section
namespace Go.Proofs.YtcibajleknhklaaDoor
open Go.RowKit Go.BigFrame Go.WideMaps Go.WideElems Go.ChangeMaps Go.Vec Go.Cost
set_option linter.unusedSimpArgs false
set_option linter.unusedVariables false
/-- The example's three results. -/
def exX : Nat → Nat → Int := fun i j => if j = 0 then (if i = 1 then 2 else 1) else 0
theorem ex_wf (i : Nat) : wf5 (exX i) := fun j _ => by
  unfold exX
  split
  · split <;> decide
  · decide
theorem ex_best (f : Nat → Int) (n : Int) (h : Best (addTo (.map []) exX 3) (fun _ => false) f n) : L5 f = L5 (exX 0) ∧ n = 2 := by
  have hi := inLog_iff exX 3 (by omega) (fun i _ => ex_wf i)
  have c0 : cntTo exX (exX 0) 3 = 2 := by decide
  have h0 : InLog (addTo (.map []) exX 3) (exX 0) 2 := (hi (exX 0) 2).2 ⟨ex_wf 0, by rw [c0]; rfl, by omega⟩
  have ht := h.top _ _ h0 rfl
  unfold better at ht
  have hn2 : ¬ n < 2 := fun h => ht (.inl h)
  rcases h.src with ⟨hz, _⟩ | hin
  · omega
  · obtain ⟨hf, hm, hp⟩ := (hi f n).1 hin
    have e : cntTo exX f 3 = 0 + (if L5 (exX 0) = L5 f then 1 else 0) + (if L5 (exX 1) = L5 f then 1 else 0) + (if L5 (exX 2) = L5 f then 1 else 0) := rfl
    have e2 : L5 (exX 2) = L5 (exX 0) := by decide
    have e1 : ¬ L5 (exX 1) = L5 (exX 0) := by decide
    rw [e2] at e
    by_cases q : L5 (exX 0) = L5 f
    · refine ⟨q.symm, ?_⟩
      rw [if_pos q, if_neg (by rw [← q]; exact e1)] at e
      omega
    · rw [if_neg q] at e
      split at e <;> omega
theorem eqC (cs : Array Value) (f : Nat → Int) (h : cs = ag i64s 5 f) (w : World) : (Op.equalIn 10000 A5 (.agg cs) (.agg cs)).run Tryd.prog w = .ok true w := by
  subst h; exact eq5_yes f f (fun _ _ => rfl) w
set_option maxHeartbeats 4000000 in
set_option maxRecDepth 100000 in
theorem awake15 (w : World) (hW : WidthW w) : Calls Tryd.prog 27 #[] w fun e w' => e = .returned (.bool true) ∧ Below w.heap.size w w' := by
  have HW := Lib.hid hW
  have hmm := @run_makeMap Tryd.prog
  have had := Lib.hid (fun b n0 D len cap A X w hL hn hwf hA => logAdd b n0 D len cap A X w hL hn hwf hA)
  have hmo := Lib.hid (fun b n0 D w hL => logMost b n0 D w hL)
  have hfr := Lib.hid (fun w => fresh_any w)
  have hal := Lib.hid (fun hb sh w h hW => shareAlloc hb sh 0 1 7 4 w h hW)
  clear hW
  go_enter Tryd.func27, Tryd.ntmps27
  go_wp2_with fail
  refine (had.out w.heap.size 0 (.map []) 3 3 (some ⟨w.heap.size + 1, 0, none⟩) exX _ ((World.ownsMap_made w Tryd.prog A5 (plainElem Tryd.prog TI)).alloc _) (by omega) (fun i _ => ex_wf i) (fun _ => ⟨w.heap.size + 1, 0, rfl, by simp, by omega, fun i hi j hj => ?_⟩)).mono ?_
  · have hc := (block_facts (alloc_secondOf w (.map #[] 0) (.cells #[.int .i64 1, .int .i64 0, .int .i64 0, .int .i64 0, .int .i64 0, .int .i64 2, .int .i64 0, .int .i64 0, .int .i64 0, .int .i64 0, .int .i64 1, .int .i64 0, .int .i64 0, .int .i64 0, .int .i64 0] A5 (0, 0)))).1 (0 + i * 5 + j)
    rw [hc]
    rcases (show i = 0 ∨ i = 1 ∨ i = 2 by omega) with h | h | h <;> subst h <;> rcases (show j = 0 ∨ j = 1 ∨ j = 2 ∨ j = 3 ∨ j = 4 by omega) with h | h | h | h | h <;> subst h <;> rfl
  rintro e w1 ⟨rfl, hL, hg⟩
  have HL := Lib.hid hL
  have hb1 : Below w.heap.size w w1 := ⟨hg.os, hg.tape, hg.output, Nat.le_trans (by simp; omega) hg.size, fun k hk => (hg.block k (by simp; omega) (by intro e; simp at e; omega)).trans (((alloc_old _ _ k (by simp; omega)).trans (alloc_old _ _ k hk)))⟩
  have HB1 := Lib.hid hb1
  clear hL hg hb1 had
  go_wp2_with fail
  refine (hmo.out _ _ _ w1 HL.out).mono ?_
  rintro e w2 ⟨f, n, hbest, rfl, hb2⟩
  obtain ⟨hf, rfl⟩ := ex_best f n hbest
  have hfa : ag i64s 5 f = #[.int .i64 1, .int .i64 0, .int .i64 0, .int .i64 0, .int .i64 0] := by
    rw [ag_ext i64s 5 f (exX 0) (L5_inj hf)]
    rfl
  rw [hfa]
  have HB2 := Lib.hid (HB1.out.trans (hb2.mono HB1.out.size))
  clear hbest hb2 hf hfa hmo HL
  have heq1 := fun w => eqC #[.int .i64 1, .int .i64 0, .int .i64 0, .int .i64 0, .int .i64 0] (exX 0) rfl w
  go_wp2_with fail
  refine (hfr.out _).mono ?_
  rintro e w3 ⟨hb, sh, rfl, hS, hb3⟩
  have HS := Lib.hid hS
  have HB3 := Lib.hid (HB2.out.trans (Below.mono (B := w2.heap.size) ((Below.alloc (Below.refl _ _) (Nat.le_refl _) _).trans (hb3.mono (by simp))) HB2.out.size))
  clear hS hb3 hfr heq1
  have ea : aggOf (allocF 0 1 7 4) = .agg #[.int .i64 0, .int .i64 0, .int .i64 1, .int .i64 0, .int .i64 0] := by
    have : allocF 0 1 7 4 = [0, 0, 1, 0, 0] := by decide +kernel
    rw [this]; rfl
  have heq2 := fun w => eqC #[.int .i64 0, .int .i64 0, .int .i64 1, .int .i64 0, .int .i64 0] (fun j => if j = 2 then 1 else 0) rfl w
  have HE := Lib.hid ea
  clear ea
  go_wp2_with fail
  refine (hal.out hb sh w3 HS.out (HW.out.below' HB3.out)).mono ?_
  rintro e w4 ⟨rfl, hb4⟩
  have HB4 := Lib.hid (HB3.out.trans (hb4.mono HB3.out.size))
  clear hb4
  rw [HE.out]
  go_wp2_with fail
  go_ret
  exact ⟨rfl, HB4.out⟩
end Go.Proofs.YtcibajleknhklaaDoor
end

section
namespace Go.Proofs.YtcibajleknhklaaDoor
open Go.RowKit Go.BigFrame Go.Vec Go.Cost
set_option linter.unusedSimpArgs false
set_option linter.unusedVariables false
theorem allocF_five (s c t bud : Int) : ∃ l0 l1 l2 l3 l4, allocF s c t bud = [l0, l1, l2, l3, l4] := by
  by_cases h : RightP s c
  · exact five (allocF_fits s c t bud h).1.1
  · exact ⟨_, _, _, _, _, allocF_not s c t bud h⟩
end Go.Proofs.YtcibajleknhklaaDoor
end

section
namespace Go
open Go.RowKit
theorem below_bkd' {B m : Nat} {a w : World} (h : Below B a w) (hs : B ≤ w.heap.size) (hm : B ≤ m) (x : BookBy) : Below B a (w.bkd m x) :=
  h.trans ⟨rfl, rfl, rfl, by simp, fun k hk => World.bkd_block w m x k (by omega) (by omega)⟩
end Go
namespace Go.Proofs.YtcibajleknhklaaDoor
open Go.RowKit Go.BigFrame Go.Vec Go.Cost
set_option linter.unusedSimpArgs false
set_option linter.unusedVariables false
/-- A book and a share of one's own. -/
structure SD (w0 : World) (b m hb sh : Nat) (W : World) : Prop where
  book : Book b m W
  own : w0.heap.size ≤ m
  below : Below w0.heap.size w0 W
  share : ShareAt hb sh W
  ne : m ≠ hb ∧ m ≠ sh
theorem SD.bkd {w0 W : World} {b m hb sh : Nat} (h : SD w0 b m hb sh W) (x : BookBy) : SD w0 b m hb sh (W.bkd m x) := by
  refine ⟨h.book.any x, h.own, below_bkd' h.below h.below.size h.own x, ⟨(World.bkd_block W m x hb (block_facts h.share.sha).2.2 h.ne.1).trans h.share.sha, ?_⟩, h.ne⟩
  obtain ⟨cs, h1, h2⟩ := h.share.sheet
  exact ⟨cs, (World.bkd_block W m x sh (Array.getElem?_eq_some_iff.1 h1).1 h.ne.2).trans h1, h2⟩
theorem SD.calls {w0 W : World} {b m hb sh : Nat} (h : SD w0 b m hb sh W) {f : FuncId} {args : Array Value} {v : Value} (hc : BkCalls m W f args v) : Calls Tryd.prog f args W fun e w' => e = .returned v ∧ SD w0 b m hb sh w' := by
  obtain ⟨x0, hx⟩ := bkInv_as h.book.refl
  have := hc x0
  rw [← hx] at this
  exact this.mono fun e w' ⟨he, y, hy⟩ => ⟨he, by subst hy; exact h.bkd y⟩
theorem SD.h0 {w0 W : World} {b m hb sh : Nat} (h : SD w0 b m hb sh W) : W.cell? ⟨hb, 0, none⟩ = some (.pointer (some ⟨sh, 0, none⟩)) := (block_facts h.share.sha).1 0
end Go.Proofs.YtcibajleknhklaaDoor
end

