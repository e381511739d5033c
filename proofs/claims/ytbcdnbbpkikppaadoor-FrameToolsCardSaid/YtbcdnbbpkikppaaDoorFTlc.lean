/-
  The quick table: how many go ahead, and the vector of a rank written into a block (table.row.ahead, table.Table.Into).
  (One text out of these parts: ShareW, Total, Best, Alloc, AllocF, ShareA, ShareP, RefA15, RankP, Chg, Av, RankT.)
-/
import Derived.Test.YtbcdnbbpkikppaaDoorFTlb
import Derived.BigQuiet
section
namespace Go.Proofs.YtbcdnbbpkikppaaDoor
open Go.RowKit Go.BigFrame Go.Vec Go.Cost
set_option linter.unusedSimpArgs false
set_option linter.unusedVariables false
abbrev A5 := 29
abbrev i64s : Nat → IntKind := fun _ => .i64
/-- A job: its share, its sheet, its mode, its slopes. -/
structure JobAt (jb hb sh : Nat) (s c : Int) (sl : Nat → Int) (w : World) : Prop where
  job : w.heap[jb]? = some (.cells #[.pointer (some ⟨hb, 0, none⟩), .int .i64 s, .int .i64 c, .int .i64 (sl 0), .int .i64 (sl 1), .int .i64 (sl 2), .int .i64 (sl 3), .int .i64 (sl 4)] 234 (0, 0))
  sha : w.heap[hb]? = some (.cells #[.pointer (some ⟨sh, 0, none⟩)] 164 (0, 0))
  sheet : SheetOK sh w
  wid : WidthW w
theorem sheet_lt {b : Nat} {w : World} (h : SheetOK b w) : b < w.heap.size := by
  obtain ⟨cs, h, _⟩ := h
  exact (Array.getElem?_eq_some_iff.1 h).1
theorem WidthW.below' {w w' : World} (h : WidthW w) (hb : Below w.heap.size w w') : WidthW w' := ⟨Nat.lt_of_lt_of_le h.1 hb.size, fun j hj => (World.cell?_of_block (w := w) (hb.block _ h.1)).trans (h.2 j hj)⟩
theorem JobAt.keep {jb hb sh s c sl} {w w' : World} (h : JobAt jb hb sh s c sl w) (hb' : Below w.heap.size w w') : JobAt jb hb sh s c sl w' :=
  ⟨(hb'.block _ (Array.getElem?_eq_some_iff.1 h.job).1).trans h.job, (hb'.block _ (Array.getElem?_eq_some_iff.1 h.sha).1).trans h.sha, h.sheet.below (sheet_lt h.sheet) hb', h.wid.below' hb'⟩
theorem JobAt.c0 {jb hb sh s c sl} {w : World} (h : JobAt jb hb sh s c sl w) : w.cell? ⟨jb, 0, none⟩ = some (.pointer (some ⟨hb, 0, none⟩)) := (block_facts h.job).1 0
theorem JobAt.c1 {jb hb sh s c sl} {w : World} (h : JobAt jb hb sh s c sl w) : w.cell? ⟨jb, 1, none⟩ = some (.int .i64 s) := (block_facts h.job).1 1
theorem JobAt.c2 {jb hb sh s c sl} {w : World} (h : JobAt jb hb sh s c sl w) : w.cell? ⟨jb, 2, none⟩ = some (.int .i64 c) := (block_facts h.job).1 2
theorem JobAt.cs {jb hb sh s c sl} {w : World} (h : JobAt jb hb sh s c sl w) (b : Nat) (hb5 : b < 5) : w.cell? ⟨jb, 3 + b, none⟩ = some (.int .i64 (sl b)) := by
  rw [(block_facts h.job).1 (3 + b)]
  rcases (show b = 0 ∨ b = 1 ∨ b = 2 ∨ b = 3 ∨ b = 4 by omega) with h | h | h | h | h <;> subst h <;> rfl
theorem JobAt.h0 {jb hb sh s c sl} {w : World} (h : JobAt jb hb sh s c sl w) : w.cell? ⟨hb, 0, none⟩ = some (.pointer (some ⟨sh, 0, none⟩)) := (block_facts h.sha).1 0
theorem JobAt.lt {jb hb sh s c sl} {w : World} (h : JobAt jb hb sh s c sl w) : jb < w.heap.size ∧ hb < w.heap.size := ⟨(block_facts h.job).2.2, (block_facts h.sha).2.2⟩
theorem capB (sh : Nat) (n : Int) (w : World) (h : SheetOK sh w) : Calls Tryd.prog 172 #[.pointer (some ⟨sh, 0, none⟩), .int .i64 n] w fun e w' => e = .returned (.int .i64 (capF n)) ∧ Below w.heap.size w w' :=
  (sheetCap sh w h n).mono fun e w' ⟨h1, h2⟩ => ⟨h1, by subst h2; exact Below.refl _ _⟩
theorem bitsB (sh : Nat) (n k : Int) (w : World) (h : SheetOK sh w) : Calls Tryd.prog 176 #[.pointer (some ⟨sh, 0, none⟩), .int .i64 n, .int .i64 k] w fun e w' => e = .returned (.int .i64 (bitsF n k)) ∧ Below w.heap.size w w' :=
  (sheetBits sh w h n k).mono fun e w' ⟨h1, h2⟩ => ⟨h1, by subst h2; exact Below.refl _ _⟩
section
variable {P : Program} {ops : Array Oper} {rest : List Oper} {o : Oper} {a : Act} {w : World} {Q : Exit → Act → World → Prop}
theorem gate_load (ty : TypeId) (x : Operand) (ho : o.op = .load ty x) (h : wpList P ops Q (o :: rest) a w) : wpList P ops Q (o :: rest) a w := h
end
/-- All pulses up to a level. -/
def atF (s c : Int) (sl : Nat → Int) (lv : Int) (b : Nat) : Int := min (lv / sl b) (capF (widthF s c b))
def atTo (s c : Int) (sl : Nat → Int) (lv : Int) (n : Nat) : Nat → Int := fun b => if b < n then atF s c sl lv b else 0
/-- The call's frame: the result, the pulses. -/
structure JA (w : World) (B jb hb sh : Nat) (s c : Int) (sl f : Nat → Int) (W : World) : Prop where
  below : Below B w W
  rb : Bx B A5 i64s 5 (fun _ => 0) W
  kb : Bx (B + 1) A5 i64s 5 f W
  job : JobAt jb hb sh s c sl W
  jl : jb < B ∧ hb < B ∧ sh < B
  gl : 0 < B
theorem JA.keep {w B jb hb sh s c sl f} {W W' : World} (h : JA w B jb hb sh s c sl f W) (hb' : Below W.heap.size W W') : JA w B jb hb sh s c sl f W' :=
  ⟨h.below.trans (hb'.mono (by have := (block_facts h.rb).2.2; omega)), h.rb.keep hb', h.kb.keep hb', h.job.keep hb', h.jl, h.gl⟩
theorem JobAt.only {jb hb sh s c sl} {q : Nat} {w w' : World} (h : JobAt jb hb sh s c sl w) (ho : Only q w w') (hj : jb < q) (hh : hb < q) (hs : sh < q) (hg : 0 < q) : JobAt jb hb sh s c sl w' := by
  have hB : Below q w w' := ho.below (Below.refl q w) (Nat.le_refl _)
  exact ⟨(ho.block _ (by omega)).trans h.job, (ho.block _ (by omega)).trans h.sha, h.sheet.below hs hB, ⟨by rw [ho.size]; exact h.wid.1, fun j hj => (World.cell?_of_block (w := w) (ho.block 0 (by omega))).trans (h.wid.2 j hj)⟩⟩
theorem JA.onlyK {w B jb hb sh s c sl f} {f' : Nat → Int} {W W' : World} (h : JA w B jb hb sh s c sl f W) (ho : Only (B + 1) W W') (hf : Bx (B + 1) A5 i64s 5 f' W') : JA w B jb hb sh s c sl f' W' := by
  have h1 := h.jl
  have h2 := h.gl
  exact ⟨ho.below h.below (by omega), (ho.block _ (by omega)).trans h.rb, hf, h.job.only ho (by omega) (by omega) (by omega) (by omega), h1, h2⟩
theorem info5 : (Tryd.prog.info? A5).map (·.size) = some 5 := by kernel_rfl
theorem info5_ag (f : Nat → Int) : (Tryd.prog.info? A5).map (·.size) = some (ag i64s 5 f).size := by rw [ag_size]; exact info5
set_option maxHeartbeats 2000000 in
set_option maxRecDepth 100000 in
theorem shAt (jb hb sh : Nat) (s c : Int) (sl : Nat → Int) (nb : Nat) (hnb : bandsF s c = nb) (hsl : ∀ b, b < nb → 1 ≤ sl b ∧ sl b ≤ 64) (lv : Int) (hlv : 0 ≤ lv ∧ lv ≤ 100000) (w : World) (h : JobAt jb hb sh s c sl w) :
    Calls Tryd.prog 175 #[.pointer (some ⟨jb, 0, none⟩), .int .i64 lv] w fun e w' => e = .returned (.agg (ag i64s 5 (atTo s c sl lv nb))) ∧ Below w.heap.size w w' := by
  have HJ := Lib.hid h
  have hbn := Lib.hid (fun w => modeBands s c w)
  rw [hnb] at hbn
  have hnb5 : nb ≤ 5 := by have := bandsF_bd s c; omega
  have hwd := Lib.hid (fun (b : Int) w hT => modeWidth s c b w hT)
  have hcp := Lib.hid (fun n w hS => capB sh n w hS)
  have HSL := Lib.hid hsl
  have HNB := Lib.hid hnb
  have hlt := h.lt
  clear h hsl hnb
  go_enter Tryd.func175, Tryd.ntmps175
  go_upto_region 2 with fail
  refine cut_world (fun W => JA w w.heap.size jb hb sh s c sl (fun _ => 0) W) ⟨by (repeat' (first | with_reducible (first | exact Below.refl _ _ | assumption | refine Below.alloc ?_ ?_ _ | refine below_grew ?_ ?_ _ | refine Below.setCell ?_ ?_ _ | refine Below.drew ?_ | refine below_drewN ?_ _) | omega | (simp; done) | (simp; omega))), alloc_two _ _ _, alloc_secondOf _ _ _, HJ.out.keep (by (repeat' (first | with_reducible (first | exact Below.refl _ _ | assumption | refine Below.alloc ?_ ?_ _ | refine below_grew ?_ ?_ _ | refine Below.setCell ?_ ?_ _ | refine Below.drew ?_ | refine below_drewN ?_ _) | omega | (simp; done) | (simp; omega)))), ⟨hlt.1, hlt.2, sheet_lt HJ.out.sheet⟩, HJ.out.wid.1⟩ ?_
  intro V hV
  generalize hBd : w.heap.size = B at *
  have HBd := Lib.hid hBd
  have HV := Lib.hid hV
  have hj1 := hV.job.c1
  have hj2 := hV.job.c2
  have hjl := hV.job.lt
  clear hBd hV hlt
  go_wp2_with (go_at_call 28; refine (hbn.out _).mono ?_; rintro e wn ⟨rfl, hbb⟩; have HV2 := Lib.hid (HV.out.keep hbb); clear hbb)
  clear hj1 hj2 hjl HV HJ
  go_loopw [6, 12] (fun v6 cnt wr => ∃ b : Nat, b ≤ nb ∧ cnt = .int .i64 b ∧ JA w B jb hb sh s c sl (atTo s c sl lv b) wr) (fun _ cnt _ => nb - (intOf cnt).toNat)
  case atStart => exact ⟨0, by omega, rfl, by have := HV2.out; rwa [show (fun _ => (0 : Int)) = atTo s c sl lv 0 from by funext j; unfold atTo; rw [if_neg (by omega)]] at this⟩
  case round =>
    clear HV2
    obtain ⟨b, hbl, rfl, hL⟩ := hrel
    have HL := Lib.hid hL
    have hb0 : (0 : Int) ≤ b := by omega
    have hjl := hL.job.lt
    have hj0 := hL.job.c0
    have hj1 := hL.job.c1
    have hj2 := hL.job.c2
    have hh0 := hL.job.h0
    clear hL
    by_cases hlt : b < nb
    · have hlt' : (b : Int) < nb := by omega
      have hb5 : (b : Int) < 5 := by omega
      have hjs := HL.out.job.cs b (by omega)
      have hq := HSL.out b hlt
      obtain ⟨q, hqe⟩ : ∃ q, sl b = q := ⟨_, rfl⟩
      rw [hqe] at hjs hq
      have HQE := Lib.hid hqe
      have hq0 : ¬ q = 0 := by omega
      have hq00 : (0 : Int) ≤ q := by omega
      have hlv0 : (0 : Int) ≤ lv := hlv.1
      have hkf := (block_facts HL.out.kb).2.1 b
      have hkc := ag_cell HL.out.kb b (by omega)
      clear hqe hlt
      go_upto_region 5 with fail
      first | refine wp_region_grew2 25 (by kernel_rfl) (by kernel_rfl) ?_ | refine wp_region_grew 25 (by kernel_rfl) (by kernel_rfl) ?_
      simp only [List.take_succ_cons, List.take_zero, List.drop_succ_cons, List.drop_zero]
      repeat (go_big_quiet_step (first | (go_at_call 30; exact Calls.grew_of (hwd.out _ _ (HL.out.keep (by (repeat' (first | with_reducible (first | exact Below.refl _ _ | assumption | refine Below.alloc ?_ ?_ _ | refine below_grew ?_ ?_ _ | refine Below.setCell ?_ ?_ _ | refine Below.drew ?_ | refine below_drewN ?_ _) | omega | (simp; done) | (simp; omega))))).job.wid)) | (go_at_call 172; exact Calls.grew_of (hcp.out _ _ (HL.out.keep (by (repeat' (first | with_reducible (first | exact Below.refl _ _ | assumption | refine Below.alloc ?_ ?_ _ | refine below_grew ?_ ?_ _ | refine Below.setCell ?_ ?_ _ | refine Below.drew ?_ | refine below_drewN ?_ _) | omega | (simp; done) | (simp; omega))))).job.sheet))))
      refine wpQuiet_nil ?_
      rintro _ ⟨x, rfl⟩
      have hl2 := HL.out.keep (W' := wr.grew x) (by (repeat' (first | with_reducible (first | exact Below.refl _ _ | assumption | refine Below.alloc ?_ ?_ _ | refine below_grew ?_ ?_ _ | refine Below.setCell ?_ ?_ _ | refine Below.drew ?_ | refine below_drewN ?_ _) | omega | (simp; done) | (simp; omega))))
      have kc2 := ag_cell hl2.kb b (by omega)
      have kf2 := (block_facts hl2.kb).2.1 b
      have HL2 := Lib.hid hl2
      clear hl2 hkf hkc hj0 hj1 hj2 hh0 hjs hq hq0 hq00 hlv0
      go_upto_region 6 with fail
      clear kc2 kf2
      refine cut_world (fun W => JA w B jb hb sh s c sl (atTo s c sl lv (b + 1)) W) (HL2.out.onlyK (only_setCell _ ⟨B + 1, b, none⟩ _) ?_) ?_
      · have h5 := ag_store HL2.out.kb b (by omega) (min (lv / q) (capF (widthF s c b)))
        have e5 : ag i64s 5 (updI (atTo s c sl lv b) b (min (lv / q) (capF (widthF s c b)))) = ag i64s 5 (atTo s c sl lv (b + 1)) := ag_ext _ _ _ _ fun j hj => by
          unfold updI atTo atF
          by_cases e : j = b
          · rw [if_pos e, if_pos (by omega), e, HQE.out]
          · rw [if_neg e]
            by_cases e2 : j < b
            · rw [if_pos e2, if_pos (by omega)]
            · rw [if_neg e2, if_neg (by omega)]
        rw [e5] at h5
        exact h5
      clear HL2 HL
      intro V5 hV5
      have HV5 := Lib.hid hV5
      clear hV5
      go_wp2_with fail
      go_roundw
      case rel => exact ⟨b + 1, by omega, rfl, HV5.out⟩
      case measure => simp [intOf]; omega
    · have hlt' : ¬ (b : Int) < nb := by omega
      obtain rfl : b = nb := by omega
      clear hlt hj0 hj1 hj2 hh0 hjl
      go_wp2_with (first | ((with_reducible refine gate_load A5 _ rfl ?_); refine load_row_g rfl A5 _ rfl (B + 1) rfl _ (ag i64s 5 (atTo s c sl lv b)) (0, 0) _ HL.out.kb Tryd.underlying29 rfl ?hin ?_; (case hin => exact info5_ag _)) | (refine wpList_store_mid rfl A5 _ _ rfl B 0 (ag i64s 5 (atTo s c sl lv b)) rfl rfl ?hth ?hin ?hon ?_; (case hth => exact there_row HL.out.rb _ (by rw [ag_size, ag_size]; exact Nat.le_refl _)); (case hin => exact info5_ag _); (case hon => exact ag_one i64s 5 _)))
      have q1 := cells_all HL.out.rb (N := 5) (ag_size _ _ _) (cs := ag i64s 5 (atTo s c sl lv b)) (ag_size _ _ _)
      have hfin : Below w.heap.size w (wr.setCells B 0 (ag i64s 5 (atTo s c sl lv b)).toList) := (only_setCells _ _ _ _).below (by rw [HBd.out]; exact HL.out.below) (by rw [HBd.out]; exact Nat.le_refl _)
      refine bodyPost_ret (v := .agg (ag i64s 5 (atTo s c sl lv b))) ?_ rfl ⟨rfl, hfin⟩
      exact results_cell_row rfl _ _ B _ _ _ _ rfl q1 Tryd.underlying29 rfl (info5_ag _)
/-- What so many bands cost. -/
def sumK (s c : Int) (k : Nat → Int) : Nat → Int
  | 0 => 0
  | b + 1 => sumK s c k b + bitsF (widthF s c b) (k b)
theorem bitsF_b (n k : Int) : -1 ≤ bitsF n k ∧ bitsF n k ≤ 200 := by
  unfold bitsF
  split
  · rename_i h
    have hp := capF_pos n k h.1 h.2
    have := pays_le ⟨n.toNat, by omega⟩ ⟨k.toNat, by omega⟩
    simp only at this
    omega
  · omega
theorem sumK_bd (s c : Int) (k : Nat → Int) : ∀ n : Nat, -(n : Int) ≤ sumK s c k n ∧ sumK s c k n ≤ 200 * n
  | 0 => by simp [sumK]
  | n + 1 => by
    have h := sumK_bd s c k n
    have h2 := bitsF_b (widthF s c n) (k n)
    simp only [sumK]
    omega
/-- The call's frame: the pulses that came. -/
structure JT (w : World) (B jb hb sh : Nat) (s c : Int) (sl k : Nat → Int) (W : World) : Prop where
  below : Below B w W
  kb : Bx B A5 i64s 5 k W
  job : JobAt jb hb sh s c sl W
theorem JT.keep {w B jb hb sh s c sl k} {W W' : World} (h : JT w B jb hb sh s c sl k W) (hb' : Below W.heap.size W W') : JT w B jb hb sh s c sl k W' :=
  ⟨h.below.trans (hb'.mono (by have := (block_facts h.kb).2.2; omega)), h.kb.keep hb', h.job.keep hb'⟩
set_option maxHeartbeats 2000000 in
set_option maxRecDepth 100000 in
theorem shTotal (jb hb sh : Nat) (s c : Int) (sl k : Nat → Int) (nb : Nat) (hnb : bandsF s c = nb) (w : World) (h : JobAt jb hb sh s c sl w) :
    Calls Tryd.prog 174 #[.pointer (some ⟨jb, 0, none⟩), .agg (ag i64s 5 k)] w fun e w' => e = .returned (.int .i64 (sumK s c k nb * c)) ∧ Below w.heap.size w w' := by
  have HJ := Lib.hid h
  have hbn := Lib.hid (fun w => modeBands s c w)
  rw [hnb] at hbn
  have hnb5 : nb ≤ 5 := by have := bandsF_bd s c; omega
  have hcc : wrap64 (sumK s c k nb * c) = sumK s c k nb * c := by
    have hbd := sumK_bd s c k nb
    by_cases hR : RightP s c
    · have hc : c = 1 ∨ c = 2 := by unfold RightP at hR; omega
      rcases hc with rfl | rfl <;> unfold wrap64 <;> omega
    · have h0 : nb = 0 := by unfold bandsF at hnb; rw [if_neg hR] at hnb; omega
      subst h0
      simp only [sumK, Int.zero_mul]
      decide +kernel
  have HCC := Lib.hid hcc
  have hwd := Lib.hid (fun (b : Int) w hT => modeWidth s c b w hT)
  have hbt := Lib.hid (fun n k w hS => bitsB sh n k w hS)
  have HNB := Lib.hid hnb
  have hlt := h.lt
  clear h hnb hcc
  go_enter Tryd.func174, Tryd.ntmps174
  go_upto_region 2 with fail
  refine cut_world (fun W => JT w w.heap.size jb hb sh s c sl k W) ⟨by (repeat' (first | with_reducible (first | exact Below.refl _ _ | assumption | refine Below.alloc ?_ ?_ _ | refine below_grew ?_ ?_ _ | refine Below.setCell ?_ ?_ _ | refine Below.drew ?_ | refine below_drewN ?_ _) | omega | (simp; done) | (simp; omega))), alloc_at _ _, HJ.out.keep (by (repeat' (first | with_reducible (first | exact Below.refl _ _ | assumption | refine Below.alloc ?_ ?_ _ | refine below_grew ?_ ?_ _ | refine Below.setCell ?_ ?_ _ | refine Below.drew ?_ | refine below_drewN ?_ _) | omega | (simp; done) | (simp; omega))))⟩ ?_
  intro V hV
  generalize hBd : w.heap.size = B at *
  have HBd := Lib.hid hBd
  have HV := Lib.hid hV
  have hj1 := hV.job.c1
  have hj2 := hV.job.c2
  have hjl := hV.job.lt
  clear hBd hV hlt
  go_wp2_with (go_at_call 28; refine (hbn.out _).mono ?_; rintro e wn ⟨rfl, hbb⟩; have HV2 := Lib.hid (HV.out.keep hbb); clear hbb)
  clear hj1 hj2 hjl HV HJ
  go_loopw [5, 6, 12] (fun v5 v6 cnt wr => ∃ b : Nat, b ≤ nb ∧ cnt = .int .i64 b ∧ v5 = .int .i64 (sumK s c k b) ∧ JT w B jb hb sh s c sl k wr) (fun _ _ cnt _ => nb - (intOf cnt).toNat)
  case atStart => exact ⟨0, by omega, rfl, rfl, HV2.out⟩
  case round =>
    clear HV2
    obtain ⟨b, hbl, rfl, rfl, hL⟩ := hrel
    have HL := Lib.hid hL
    have hb0 : (0 : Int) ≤ b := by omega
    have hjl := hL.job.lt
    have hj0 := hL.job.c0
    have hj1 := hL.job.c1
    have hj2 := hL.job.c2
    have hh0 := hL.job.h0
    clear hL
    by_cases hlt : b < nb
    · have hlt' : (b : Int) < nb := by omega
      have hb5 : (b : Int) < 5 := by omega
      have hkc := ag_cell HL.out.kb b (by omega)
      have hkl := (block_facts HL.out.kb).2.2
      have hs1 := sumK_bd s c k b
      have hs2 := bitsF_b (widthF s c b) (k b)
      have HNX := Lib.hid (show sumK s c k (b + 1) = sumK s c k b + bitsF (widthF s c b) (k b) from rfl)
      obtain ⟨S, hS⟩ : ∃ S, sumK s c k b = S := ⟨_, rfl⟩
      rw [hS] at hs1 HNX
      rw [hS]
      have hws : wrap64 (S + bitsF (widthF s c b) (k b)) = S + bitsF (widthF s c b) (k b) := by unfold wrap64; omega
      have HWS := Lib.hid hws
      clear hlt hS hs1 hs2 hws
      go_upto_region 5 with fail
      first | refine wp_region_grew2 19 (by kernel_rfl) (by kernel_rfl) ?_ | refine wp_region_grew 19 (by kernel_rfl) (by kernel_rfl) ?_
      simp only [List.take_succ_cons, List.take_zero, List.drop_succ_cons, List.drop_zero]
      repeat (go_big_quiet_step (first | (go_at_call 30; exact Calls.grew_of (hwd.out _ _ (HL.out.keep (by (repeat' (first | with_reducible (first | exact Below.refl _ _ | assumption | refine Below.alloc ?_ ?_ _ | refine below_grew ?_ ?_ _ | refine Below.setCell ?_ ?_ _ | refine Below.drew ?_ | refine below_drewN ?_ _) | omega | (simp; done) | (simp; omega))))).job.wid)) | (go_at_call 176; exact Calls.grew_of (hbt.out _ _ _ (HL.out.keep (by (repeat' (first | with_reducible (first | exact Below.refl _ _ | assumption | refine Below.alloc ?_ ?_ _ | refine below_grew ?_ ?_ _ | refine Below.setCell ?_ ?_ _ | refine Below.drew ?_ | refine below_drewN ?_ _) | omega | (simp; done) | (simp; omega))))).job.sheet))))
      refine wpQuiet_nil ?_
      rintro _ ⟨x, rfl⟩
      have HL2 := Lib.hid (HL.out.keep (W' := wr.grew x) (by (repeat' (first | with_reducible (first | exact Below.refl _ _ | assumption | refine Below.alloc ?_ ?_ _ | refine below_grew ?_ ?_ _ | refine Below.setCell ?_ ?_ _ | refine Below.drew ?_ | refine below_drewN ?_ _) | omega | (simp; done) | (simp; omega)))))
      clear hj0 hj1 hj2 hh0 hkc hkl hjl HL
      rw [HWS.out]
      go_wp2_with fail
      go_roundw
      case rel => exact ⟨b + 1, by omega, rfl, by rw [HNX.out], HL2.out⟩
      case measure => simp [intOf]; omega
    · have hlt' : ¬ (b : Int) < nb := by omega
      obtain rfl : b = nb := by omega
      clear hlt
      go_upto_region 7 with fail
      clear hlt'
      go_wp2_with fail
      go_ret
      refine ⟨?_, by rw [HBd.out]; exact HL.out.below⟩
      rw [HCC.out]
      rfl
/-- A level above which there is no pulse. -/
def topTo (s c : Int) (sl : Nat → Int) : Nat → Int
  | 0 => 0
  | b + 1 => max (topTo s c sl b) (sl b * capF (widthF s c b))
theorem capF_w (s c : Int) (b nb : Nat) (hnb : bandsF s c = nb) (hb : b < nb) : 1 ≤ capF (widthF s c b) ∧ capF (widthF s c b) ≤ 32 := by
  have h := capF_bd (widthF s c b)
  have hw : widthF s c b = widL.getD b 0 := by unfold widthF; rw [if_pos ⟨by omega, by omega⟩]; simp
  have hb5 := bandsF_bd s c
  have h5 : ∀ i : Fin 5, 1 ≤ capF (widL.getD i.val 0) := by decide +kernel
  have := h5 ⟨b, by omega⟩
  rw [hw] at h ⊢
  simp only at this
  omega
theorem topTo_bd (s c : Int) (sl : Nat → Int) (nb : Nat) (hnb : bandsF s c = nb) (hsl : ∀ b, b < nb → 1 ≤ sl b ∧ sl b ≤ 64) : ∀ n : Nat, n ≤ nb → 0 ≤ topTo s c sl n ∧ topTo s c sl n ≤ 2048
  | 0, _ => by simp [topTo]
  | n + 1, h => by
    have h1 := topTo_bd s c sl nb hnb hsl n (by omega)
    have h2 := hsl n (by omega)
    have h3 := capF_w s c n nb hnb (by omega)
    have h4 : sl n * capF (widthF s c n) ≤ 64 * 32 := Int.mul_le_mul h2.2 h3.2 (by omega) (by omega)
    rw [topTo]
    omega
set_option maxHeartbeats 2000000 in
set_option maxRecDepth 100000 in
theorem shTop (jb hb sh : Nat) (s c : Int) (sl : Nat → Int) (nb : Nat) (hnb : bandsF s c = nb) (hsl : ∀ b, b < nb → 1 ≤ sl b ∧ sl b ≤ 64) (w : World) (h : JobAt jb hb sh s c sl w) :
    Calls Tryd.prog 173 #[.pointer (some ⟨jb, 0, none⟩)] w fun e w' => e = .returned (.int .i64 (topTo s c sl nb)) ∧ Below w.heap.size w w' := by
  have HJ := Lib.hid h
  have hbn := Lib.hid (fun w => modeBands s c w)
  have hnb5 : nb ≤ 5 := by have := bandsF_bd s c; omega
  have hwd := Lib.hid (fun (b : Int) w hT => modeWidth s c b w hT)
  have hcp := Lib.hid (fun n w hS => capB sh n w hS)
  have HTB := Lib.hid (topTo_bd s c sl nb hnb hsl)
  have HCW := Lib.hid (fun b hb => capF_w s c b nb hnb hb)
  have HSL := Lib.hid hsl
  rw [hnb] at hbn
  have hlt := h.lt
  have hj1 := h.c1
  have hj2 := h.c2
  clear h hnb hsl
  go_enter Tryd.func173, Tryd.ntmps173
  go_wp2_with (go_at_call 28; refine (hbn.out _).mono ?_; rintro e wn ⟨rfl, hbb⟩; have HV2 := Lib.hid (And.intro (HJ.out.keep hbb) hbb); clear hbb)
  clear hj1 hj2 hlt HJ
  go_loopw [3, 4, 10] (fun v3 v4 cnt wr => ∃ b : Nat, b ≤ nb ∧ cnt = .int .i64 b ∧ v3 = .int .i64 (topTo s c sl b) ∧ JobAt jb hb sh s c sl wr ∧ Below w.heap.size w wr) (fun _ _ cnt _ => nb - (intOf cnt).toNat)
  case atStart => exact ⟨0, by omega, rfl, rfl, HV2.out.1, HV2.out.2⟩
  case round =>
    clear HV2
    obtain ⟨b, hbl, rfl, rfl, hL, hbw⟩ := hrel
    have HL := Lib.hid hL
    have HBW := Lib.hid hbw
    have hb0 : (0 : Int) ≤ b := by omega
    have hjl := hL.lt
    have hj0 := hL.c0
    have hj1 := hL.c1
    have hj2 := hL.c2
    have hh0 := hL.h0
    clear hL hbw
    by_cases hlt : b < nb
    · have hlt' : (b : Int) < nb := by omega
      have hb5 : (b : Int) < 5 := by omega
      have hjs := HL.out.cs b (by omega)
      have h2 := HSL.out b hlt
      have h3 := HCW.out b hlt
      have HNX := Lib.hid (show topTo s c sl (b + 1) = max (topTo s c sl b) (sl b * capF (widthF s c b)) from rfl)
      obtain ⟨S, hS⟩ : ∃ S, topTo s c sl b = S := ⟨_, rfl⟩
      obtain ⟨q, hq⟩ : ∃ q, sl b = q := ⟨_, rfl⟩
      rw [hS, hq] at HNX
      rw [hq] at hjs h2
      rw [hS]
      have hws : wrap64 (q * capF (widthF s c b)) = q * capF (widthF s c b) := by
        have h4 : q * capF (widthF s c b) ≤ 64 * 32 := Int.mul_le_mul h2.2 h3.2 (by omega) (by omega)
        have h5 : 0 ≤ q * capF (widthF s c b) := Int.mul_nonneg (by omega) (by omega)
        unfold wrap64; omega
      have HWS := Lib.hid hws
      clear hlt hS hq h2 h3 hws
      go_upto_region 5 with fail
      first | refine wp_region_grew2 23 (by kernel_rfl) (by kernel_rfl) ?_ | refine wp_region_grew 23 (by kernel_rfl) (by kernel_rfl) ?_
      simp only [List.take_succ_cons, List.take_zero, List.drop_succ_cons, List.drop_zero]
      repeat (go_big_quiet_step (first | (go_at_call 30; exact Calls.grew_of (hwd.out _ _ (HL.out.keep (by (repeat' (first | with_reducible (first | exact Below.refl _ _ | assumption | refine Below.alloc ?_ ?_ _ | refine below_grew ?_ ?_ _ | refine Below.setCell ?_ ?_ _ | refine Below.drew ?_ | refine below_drewN ?_ _) | omega | (simp; done) | (simp; omega))))).wid)) | (go_at_call 172; exact Calls.grew_of (hcp.out _ _ (HL.out.keep (by (repeat' (first | with_reducible (first | exact Below.refl _ _ | assumption | refine Below.alloc ?_ ?_ _ | refine below_grew ?_ ?_ _ | refine Below.setCell ?_ ?_ _ | refine Below.drew ?_ | refine below_drewN ?_ _) | omega | (simp; done) | (simp; omega))))).sheet))))
      refine wpQuiet_nil ?_
      rintro _ ⟨x, rfl⟩
      have HL2 := Lib.hid (HL.out.keep (w' := wr.grew x) (by (repeat' (first | with_reducible (first | exact Below.refl _ _ | assumption | refine Below.alloc ?_ ?_ _ | refine below_grew ?_ ?_ _ | refine Below.setCell ?_ ?_ _ | refine Below.drew ?_ | refine below_drewN ?_ _) | omega | (simp; done) | (simp; omega)))))
      have HBW2 := Lib.hid (HBW.out.trans (Below.mono (B := wr.heap.size) (w' := wr.grew x) (by (repeat' (first | with_reducible (first | exact Below.refl _ _ | assumption | refine Below.alloc ?_ ?_ _ | refine below_grew ?_ ?_ _ | refine Below.setCell ?_ ?_ _ | refine Below.drew ?_ | refine below_drewN ?_ _) | omega | (simp; done) | (simp; omega)))) HBW.out.size))
      clear hj0 hj1 hj2 hh0 hjs hjl HL HBW
      rw [HWS.out]
      go_wp2_with fail
      go_roundw
      case rel => exact ⟨b + 1, by omega, rfl, by rw [HNX.out], HL2.out, HBW2.out⟩
      case measure => simp [intOf]; omega
    · have hlt' : ¬ (b : Int) < nb := by omega
      obtain rfl : b = nb := by omega
      clear hlt hj0 hj1 hj2 hh0 hjl
      go_wp2_with fail
      go_ret
      exact ⟨rfl, HBW.out⟩
end Go.Proofs.YtbcdnbbpkikppaaDoor
end

section
namespace Go.Proofs.YtbcdnbbpkikppaaDoor
open Go.RowKit Go.BigFrame Go.Vec Go.Cost
set_option linter.unusedSimpArgs false
theorem bitsF_bd (n k : Int) : -1 ≤ bitsF n k ∧ bitsF n k ≤ 200 := by
  unfold bitsF
  split
  · rename_i h
    have hp := capF_pos n k h.1 h.2
    have := pays_le ⟨n.toNat, by omega⟩ ⟨k.toNat, by omega⟩
    simp only at this
    omega
  · omega
def costAt (s c : Int) (l : List Int) (b : Nat) : Int := if (b : Int) < bandsF s c then bitsF (widthF s c b) (l.getD b 0) else 0
def okAt (s c : Int) (l : List Int) (b : Nat) : Bool := if (b : Int) < bandsF s c then decide (0 ≤ bitsF (widthF s c b) (l.getD b 0)) else decide (l.getD b 0 = 0)
def sumAt (s c : Int) (l : List Int) : Nat → Int
  | 0 => 0
  | b + 1 => sumAt s c l b + costAt s c l b
def okTo (s c : Int) (l : List Int) : Nat → Bool
  | 0 => true
  | b + 1 => okTo s c l b && okAt s c l b
def totalF (s c : Int) (l : List Int) : Int := if RightP s c ∧ okTo s c l 5 = true then sumAt s c l 5 * c else -1
theorem sumAt_bd (s c : Int) (l : List Int) : ∀ b : Nat, -(b : Int) ≤ sumAt s c l b ∧ sumAt s c l b ≤ 200 * b
  | 0 => by simp [sumAt]
  | b + 1 => by
    have h := sumAt_bd s c l b
    have h2 := bitsF_bd (widthF s c b) (l.getD b 0)
    simp only [sumAt, costAt]
    split <;> omega
theorem okTo_false {s c : Int} {l : List Int} : ∀ {b : Nat}, b < 5 → okAt s c l b = false → okTo s c l 5 = false := by
  intro b hb h
  have : b = 0 ∨ b = 1 ∨ b = 2 ∨ b = 3 ∨ b = 4 := by omega
  simp only [okTo]
  rcases this with rfl | rfl | rfl | rfl | rfl <;> simp [h]
theorem WidthW.ne {b m : Nat} {w : World} (h : WidthW w) (hB : Book b m w) : m ≠ 0 := by
  intro e
  obtain ⟨es, clk, h1, _⟩ := hB.map
  have h2 := h.2 0 (by omega)
  subst e
  simp [World.cell?, h1] at h2
theorem WidthW.inv {b m : Nat} {w w' : World} (h : WidthW w) (hB : Book b m w) (hi : BkInv m w w') : WidthW w' :=
  ⟨Nat.lt_of_lt_of_le h.1 hi.size, fun j hj => (World.cell?_of_block (w := w) (hi.block _ h.1 (h.ne hB))).trans (h.2 j hj)⟩
theorem total_any (s c : Int) (k0 k1 k2 k3 k4 : Int) (b m : Nat) (w : World) (hB : Book b m w) (hT : WidthW w) :
    Calls Tryd.prog 158 #[.pointer (some ⟨b, 0, none⟩), .agg #[.int .i64 s, .int .i64 c], .agg #[.int .i64 k0, .int .i64 k1, .int .i64 k2, .int .i64 k3, .int .i64 k4]] w fun e w' => e = .returned (.int .i64 (totalF s c [k0, k1, k2, k3, k4])) ∧ Bk m w w' := by
  obtain ⟨l, hl⟩ : ∃ l, l = [k0, k1, k2, k3, k4] := ⟨_, rfl⟩
  have hx : ∀ n, n < 5 → (#[.int .i64 k0, .int .i64 k1, .int .i64 k2, .int .i64 k3, .int .i64 k4] : Array Value)[n]? = some (.int .i64 (l.getD n 0)) := fun n hn => by
    have : n = 0 ∨ n = 1 ∨ n = 2 ∨ n = 3 ∨ n = 4 := by omega
    subst hl
    rcases this with rfl | rfl | rfl | rfl | rfl <;> rfl
  rw [← hl]
  obtain ⟨W, hW⟩ : ∃ W, W = (w.alloc (.cells #[.int .i64 s, .int .i64 c] 53)).alloc (.cells #[.int .i64 k0, .int .i64 k1, .int .i64 k2, .int .i64 k3, .int .i64 k4] 29) := ⟨_, rfl⟩
  have hWi : BkInv m w W := by subst hW; exact (hB.refl.alloc _).alloc _
  have hBW := hB.inv hWi
  have hTW := hT.inv hB hWi
  obtain ⟨y0, hy0⟩ := bkInv_as hBW.refl
  have HX := Lib.hid hx
  have hbands := Lib.hid (fun w => modeBands s c w)
  have hwid := Lib.hid (fun n y => modeWidth s c n (W.bkd m y) (hTW.inv hBW (hBW.refl.bkd y)))
  have hbits := Lib.hid (fun n k => bits_any hBW n k)
  have hml := hB.lt_m
  have c1 : W.cell? ⟨w.heap.size, 0, none⟩ = some (.int .i64 s) := by subst hW; simp [go_sem]
  have c2 : W.cell? ⟨w.heap.size, 1, none⟩ = some (.int .i64 c) := by subst hW; simp [go_sem]
  have d1 : w.heap.size < W.heap.size := by subst hW; simp; omega
  have d2 : m ≠ w.heap.size := by omega
  have d3 : m < W.heap.size := by omega
  have HW := Lib.hid hW
  have hA := hy0
  rw [hW] at hA
  have HA := Lib.hid hA
  clear hl hx hW hA hy0
  go_enter Tryd.func158, Tryd.ntmps158
  go_wp2
  go_loopw [7, 12] (fun sum cnt wr => ∃ n : Nat, n ≤ 5 ∧ cnt = .int .i64 n ∧ sum = .int .i64 (sumAt s c l n) ∧ okTo s c l n = true ∧ ∃ y, wr = W.bkd m y) (fun _ cnt _ => 5 - (intOf cnt).toNat)
  case atStart => exact ⟨0, by omega, rfl, rfl, rfl, y0, HA.out.trans (by rw [HW.out])⟩
  case round =>
    obtain ⟨n, hn, rfl, rfl, hok, y, rfl⟩ := hrel
    by_cases hlt : n < 5
    · have hlt' : (n : Int) < 5 := by omega
      have hix := run_index_one (P := Tryd.prog) 29 3 5 _ n _ _ Tryd.underlying29 Tryd.underlying3 (by refine ⟨fun _ h => ?_, fun _ _ h => ?_⟩ <;> cases h) (by kernel_rfl) hlt (HX.out n hlt)
      have sb := sumAt_bd s c l n
      by_cases hnb : (n : Int) < bandsF s c
      · have bb := bitsF_bd (widthF s c n) (l.getD n 0)
        by_cases hb0 : 0 ≤ bitsF (widthF s c n) (l.getD n 0)
        · have E1 := Lib.hid (show sumAt s c l (n + 1) = sumAt s c l n + bitsF (widthF s c n) (l.getD n 0) from by simp only [sumAt, costAt, if_pos hnb])
          have E2 := Lib.hid (show okTo s c l (n + 1) = true from by simp only [okTo, okAt, if_pos hnb, hok, decide_eq_true hb0]; rfl)
          clear hok
          generalize l.getD n 0 = kn at *
          go_wp2_with (first | (go_at_call 28; refine (hbands.out _).mono ?_; rintro e w' ⟨rfl, hb1⟩; obtain ⟨x1, rfl⟩ := below_as_grew hb1; clear hb1; (try simp only [World.grew_bkd])) | (go_at_call 30; refine (hwid.out _ _).mono ?_; rintro e w' ⟨rfl, hb1⟩; obtain ⟨x1, rfl⟩ := below_as_grew hb1; clear hb1; (try simp only [World.grew_bkd])) | (go_at_call 165; refine (hbits.out _ _ _).mono ?_; rintro e w' ⟨rfl, y2, rfl⟩) | (go_at_call 45; refine (hright.out _).mono ?_; rintro e w' ⟨rfl, hb1⟩; obtain ⟨x1, rfl⟩ := below_as_grew hb1; clear hb1; (try simp only [World.grew_bkd])))
          go_roundw
          case rel => exact ⟨n + 1, by omega, by go_num, by rw [E1.out], E2.out, _, rfl⟩
          case measure => simp [intOf]; omega
        · have E := Lib.hid (show totalF s c l = -1 from by
            have := okTo_false (b := n) (s := s) (c := c) (l := l) hlt (by simp only [okAt, if_pos hnb, decide_eq_false hb0])
            unfold totalF
            rw [if_neg (by simp [this])])
          clear hok
          generalize l.getD n 0 = kn at *
          go_wp2_with (first | (go_at_call 28; refine (hbands.out _).mono ?_; rintro e w' ⟨rfl, hb1⟩; obtain ⟨x1, rfl⟩ := below_as_grew hb1; clear hb1; (try simp only [World.grew_bkd])) | (go_at_call 30; refine (hwid.out _ _).mono ?_; rintro e w' ⟨rfl, hb1⟩; obtain ⟨x1, rfl⟩ := below_as_grew hb1; clear hb1; (try simp only [World.grew_bkd])) | (go_at_call 165; refine (hbits.out _ _ _).mono ?_; rintro e w' ⟨rfl, y2, rfl⟩) | (go_at_call 45; refine (hright.out _).mono ?_; rintro e w' ⟨rfl, hb1⟩; obtain ⟨x1, rfl⟩ := below_as_grew hb1; clear hb1; (try simp only [World.grew_bkd])))
          go_ret
          exact ⟨ret_int E.out.symm, bkInv_as (hWi.bkd _)⟩
      · by_cases hk0 : l.getD n 0 = 0
        · have E1 := Lib.hid (show sumAt s c l (n + 1) = sumAt s c l n from by simp only [sumAt, costAt, if_neg hnb]; omega)
          have E2 := Lib.hid (show okTo s c l (n + 1) = true from by simp only [okTo, okAt, if_neg hnb, hok, decide_eq_true hk0]; rfl)
          rw [hk0] at hix
          clear hok hk0
          go_wp2_with (first | (go_at_call 28; refine (hbands.out _).mono ?_; rintro e w' ⟨rfl, hb1⟩; obtain ⟨x1, rfl⟩ := below_as_grew hb1; clear hb1; (try simp only [World.grew_bkd])) | (go_at_call 30; refine (hwid.out _ _).mono ?_; rintro e w' ⟨rfl, hb1⟩; obtain ⟨x1, rfl⟩ := below_as_grew hb1; clear hb1; (try simp only [World.grew_bkd])) | (go_at_call 165; refine (hbits.out _ _ _).mono ?_; rintro e w' ⟨rfl, y2, rfl⟩) | (go_at_call 45; refine (hright.out _).mono ?_; rintro e w' ⟨rfl, hb1⟩; obtain ⟨x1, rfl⟩ := below_as_grew hb1; clear hb1; (try simp only [World.grew_bkd])))
          go_roundw
          case rel => exact ⟨n + 1, by omega, by go_num, by rw [E1.out], E2.out, _, rfl⟩
          case measure => simp [intOf]; omega
        · have E := Lib.hid (show totalF s c l = -1 from by
            have := okTo_false (b := n) (s := s) (c := c) (l := l) hlt (by simp only [okAt, if_neg hnb, decide_eq_false hk0])
            unfold totalF
            rw [if_neg (by simp [this])])
          clear hok
          have hk0' : (l.getD n 0 == 0) = false := by rw [beq_eq_false_iff_ne]; exact hk0
          generalize l.getD n 0 = kn at *
          go_wp2_with (first | (go_at_call 28; refine (hbands.out _).mono ?_; rintro e w' ⟨rfl, hb1⟩; obtain ⟨x1, rfl⟩ := below_as_grew hb1; clear hb1; (try simp only [World.grew_bkd])) | (go_at_call 30; refine (hwid.out _ _).mono ?_; rintro e w' ⟨rfl, hb1⟩; obtain ⟨x1, rfl⟩ := below_as_grew hb1; clear hb1; (try simp only [World.grew_bkd])) | (go_at_call 165; refine (hbits.out _ _ _).mono ?_; rintro e w' ⟨rfl, y2, rfl⟩) | (go_at_call 45; refine (hright.out _).mono ?_; rintro e w' ⟨rfl, hb1⟩; obtain ⟨x1, rfl⟩ := below_as_grew hb1; clear hb1; (try simp only [World.grew_bkd])))
          go_ret
          exact ⟨ret_int E.out.symm, bkInv_as (hWi.bkd _)⟩
    · have hlt' : ¬(n : Int) < 5 := by omega
      have hn5 : n = 5 := by omega
      rw [hn5] at hok
      have sb := sumAt_bd s c l n
      by_cases hr : RightP s c
      · have E := Lib.hid (show totalF s c l = sumAt s c l n * c from by unfold totalF; rw [if_pos ⟨hr, hok⟩, hn5])
        have hright := Lib.hid (fun w => modeRight s c w)
        rw [decide_eq_true hr] at hright
        have hcc : c = 1 ∨ c = 2 := by have := hr.2.2; omega
        clear hok hr hn5
        rcases hcc with rfl | rfl
        all_goals
          go_wp2_with (first | (go_at_call 28; refine (hbands.out _).mono ?_; rintro e w' ⟨rfl, hb1⟩; obtain ⟨x1, rfl⟩ := below_as_grew hb1; clear hb1; (try simp only [World.grew_bkd])) | (go_at_call 30; refine (hwid.out _ _).mono ?_; rintro e w' ⟨rfl, hb1⟩; obtain ⟨x1, rfl⟩ := below_as_grew hb1; clear hb1; (try simp only [World.grew_bkd])) | (go_at_call 165; refine (hbits.out _ _ _).mono ?_; rintro e w' ⟨rfl, y2, rfl⟩) | (go_at_call 45; refine (hright.out _).mono ?_; rintro e w' ⟨rfl, hb1⟩; obtain ⟨x1, rfl⟩ := below_as_grew hb1; clear hb1; (try simp only [World.grew_bkd])))
          go_ret
          exact ⟨ret_int (by first | (rw [E.out]; done) | (rw [E.out]; omega)), bkInv_as (hWi.bkd _)⟩
      · have E := Lib.hid (show totalF s c l = -1 from by unfold totalF; rw [if_neg (fun h => hr h.1)])
        have hright := Lib.hid (fun w => modeRight s c w)
        rw [decide_eq_false hr] at hright
        clear hok hr hn5
        go_wp2_with (first | (go_at_call 28; refine (hbands.out _).mono ?_; rintro e w' ⟨rfl, hb1⟩; obtain ⟨x1, rfl⟩ := below_as_grew hb1; clear hb1; (try simp only [World.grew_bkd])) | (go_at_call 30; refine (hwid.out _ _).mono ?_; rintro e w' ⟨rfl, hb1⟩; obtain ⟨x1, rfl⟩ := below_as_grew hb1; clear hb1; (try simp only [World.grew_bkd])) | (go_at_call 165; refine (hbits.out _ _ _).mono ?_; rintro e w' ⟨rfl, y2, rfl⟩) | (go_at_call 45; refine (hright.out _).mono ?_; rintro e w' ⟨rfl, hb1⟩; obtain ⟨x1, rfl⟩ := below_as_grew hb1; clear hb1; (try simp only [World.grew_bkd])))
        go_ret
        exact ⟨ret_int E.out.symm, bkInv_as (hWi.bkd _)⟩
end Go.Proofs.YtbcdnbbpkikppaaDoor
end

section
namespace Go.Proofs.YtbcdnbbpkikppaaDoor
open Go.RowKit Go.BigFrame Go.Vec Go.Cost
set_option linter.unusedSimpArgs false
/-- Of the first n bands: the best one, and its level. -/
def bestTo (s c t : Int) (l : List Int) : Nat → Int × Int
  | 0 => (-1, 0)
  | n + 1 =>
    let p := bestTo s c t l n
    if capF (widthF s c n) ≤ l.getD n 0 then p
    else if p.1 < 0 ∨ (l.getD n 0 + 1) * slopeF s c t n < p.2 then ((n : Int), (l.getD n 0 + 1) * slopeF s c t n) else p
def bestF (s c t : Int) (l : List Int) : Int := (bestTo s c t l (bandsF s c).toNat).1
theorem level_bd (x y : Int) (hx : 0 ≤ x ∧ x ≤ 32) (hy : 0 ≤ y ∧ y ≤ 64) : 0 ≤ (x + 1) * y ∧ (x + 1) * y ≤ 2112 :=
  ⟨Int.mul_nonneg (by omega) hy.1, Int.le_trans (Int.mul_le_mul (show x + 1 ≤ 33 by omega) hy.2 hy.1 (by omega)) (by omega)⟩
theorem bestTo_bd (s c t : Int) (l : List Int) : ∀ n : Nat, -1 ≤ (bestTo s c t l n).1 ∧ (bestTo s c t l n).1 < n
  | 0 => by simp [bestTo]
  | n + 1 => by
    have h := bestTo_bd s c t l n
    simp only [bestTo]
    split
    · omega
    · split
      · simp only; omega
      · omega
theorem best_any (s c t : Int) (k0 k1 k2 k3 k4 : Int) (hk : ∀ n, n < 5 → 0 ≤ [k0, k1, k2, k3, k4].getD n 0 ∧ [k0, k1, k2, k3, k4].getD n 0 ≤ 32) (b m : Nat) (w : World) (hB : Book b m w) (hT : WidthW w) :
    Calls Tryd.prog 157 #[.pointer (some ⟨b, 0, none⟩), .agg #[.int .i64 s, .int .i64 c], .int .i64 t, .agg #[.int .i64 k0, .int .i64 k1, .int .i64 k2, .int .i64 k3, .int .i64 k4]] w fun e w' => e = .returned (.int .i64 (bestF s c t [k0, k1, k2, k3, k4])) ∧ Bk m w w' := by
  obtain ⟨l, hl⟩ : ∃ l, l = [k0, k1, k2, k3, k4] := ⟨_, rfl⟩
  obtain ⟨W, hW⟩ : ∃ W, W = (w.alloc (.cells #[.int .i64 s, .int .i64 c] 53)).alloc (.cells #[.int .i64 k0, .int .i64 k1, .int .i64 k2, .int .i64 k3, .int .i64 k4] 29) := ⟨_, rfl⟩
  have hx : ∀ n, n < 5 → W.cell? ⟨w.heap.size + 1, n, none⟩ = some (.int .i64 (l.getD n 0)) := fun n hn => by
    have : n = 0 ∨ n = 1 ∨ n = 2 ∨ n = 3 ∨ n = 4 := by omega
    subst hl hW
    rcases this with rfl | rfl | rfl | rfl | rfl <;> simp [go_sem]
  rw [← hl] at hk ⊢
  have hWi : BkInv m w W := by subst hW; exact (hB.refl.alloc _).alloc _
  have hBW := hB.inv hWi
  have hTW := hT.inv hB hWi
  obtain ⟨y0, hy0⟩ := bkInv_as hBW.refl
  have HX := Lib.hid hx
  have HK := Lib.hid hk
  have hbands := Lib.hid (fun y => modeBands s c (W.bkd m y))
  have hwid := Lib.hid (fun n y => modeWidth s c n (W.bkd m y) (hTW.inv hBW (hBW.refl.bkd y)))
  have hslo := Lib.hid (fun n y => slope_any s c t n (W.bkd m y) (hTW.inv hBW (hBW.refl.bkd y)))
  have hcap := Lib.hid (fun n => cap_any hBW n)
  have hml := hB.lt_m
  have c1 : W.cell? ⟨w.heap.size, 0, none⟩ = some (.int .i64 s) := by subst hW; simp [go_sem]
  have c2 : W.cell? ⟨w.heap.size, 1, none⟩ = some (.int .i64 c) := by subst hW; simp [go_sem]
  have d1 : w.heap.size < W.heap.size := by subst hW; simp; omega
  have d4 : w.heap.size + 1 < W.heap.size := by subst hW; simp
  have d2 : m ≠ w.heap.size := by omega
  have d5 : m ≠ w.heap.size + 1 := by omega
  have d3 : m < W.heap.size := by omega
  have hbd := bandsF_bd s c
  have hbN : bandsF s c = ((bandsF s c).toNat : Nat) := by omega
  have E := Lib.hid (show bestF s c t l = (bestTo s c t l (bandsF s c).toNat).1 from rfl)
  have hA := hy0
  rw [hW] at hA
  have HA := Lib.hid hA
  have HW := Lib.hid hW
  clear hl hx hW hA hy0 hk
  generalize bandsF s c = nb at *
  generalize nb.toNat = NB at *
  have hNB : NB ≤ 5 := by omega
  subst hbN
  go_enter Tryd.func157, Tryd.ntmps157
  go_wp2_with fail
  rw [HA.out]
  rw [← HW.out]
  refine ((hbands.out _).bkd_of_below).mono ?_
  rintro e w' ⟨rfl, y1, rfl⟩
  go_wp2_with fail
  go_loopw [9, 10, 15] (fun out least cnt wr => ∃ n : Nat, n ≤ NB ∧ cnt = .int .i64 n ∧ out = .int .i64 (bestTo s c t l n).1 ∧ least = .int .i64 (bestTo s c t l n).2 ∧ ∃ y, wr = W.bkd m y) (fun _ _ cnt _ => NB - (intOf cnt).toNat)
  case atStart => exact ⟨0, by omega, rfl, rfl, rfl, y1, rfl⟩
  case round =>
    obtain ⟨n, hn, rfl, rfl, rfl, y, rfl⟩ := hrel
    by_cases hlt : n < NB
    · have hlt' : (n : Int) < (NB : Int) := by omega
      have hx := HX.out n (by omega)
      have hk := HK.out n (by omega)
      have hp := bestTo_bd s c t l n
      have hn5 : (n : Int) < 5 := by omega
      by_cases hc : capF (widthF s c n) ≤ l.getD n 0
      · have E1 := Lib.hid (show bestTo s c t l (n + 1) = bestTo s c t l n from by simp only [bestTo, if_pos hc])
        generalize l.getD n 0 = kn at *
        go_wp2_with fail
        refine wp_region_bkd_all (by kernel_rfl) (by kernel_rfl) ?_
        repeat (go_big_quiet_step (first | (go_at_call 30; exact Calls.bkd_of_below (hwid.out _ _)) | (go_at_call 163; exact hcap.out _ _)))
        refine wpQuiet_nil ?_
        rintro _ ⟨x, rfl⟩
        go_wp2
        go_roundw
        case rel => exact ⟨n + 1, by omega, by go_num, by rw [E1.out], by rw [E1.out], _, rfl⟩
        case measure => simp [intOf]; omega
      · have hsl := slopeF_bd s c t n
        have hlev := level_bd _ _ hk hsl
        by_cases hb1 : (bestTo s c t l n).1 < 0
        · have E1 := Lib.hid (show bestTo s c t l (n + 1) = ((n : Int), (l.getD n 0 + 1) * slopeF s c t n) from by simp only [bestTo, if_neg hc, if_pos (Or.inl hb1)])
          generalize l.getD n 0 = kn at *
          go_wp2_with fail
          refine wp_region_bkd_all (by kernel_rfl) (by kernel_rfl) ?_
          repeat (go_big_quiet_step (first | (go_at_call 30; exact Calls.bkd_of_below (hwid.out _ _)) | (go_at_call 163; exact hcap.out _ _)))
          refine wpQuiet_nil ?_
          rintro _ ⟨x, rfl⟩
          go_wp2_with fail
          refine wp_region_bkd_all (by kernel_rfl) (by kernel_rfl) ?_
          repeat (go_big_quiet_step (first | (go_at_call 164; exact Calls.bkd_of_below (hslo.out _ _))))
          refine wpQuiet_nil ?_
          rintro _ ⟨x, rfl⟩
          go_wp2
          go_roundw
          case rel => exact ⟨n + 1, by omega, by go_num, by rw [E1.out], by rw [E1.out], _, rfl⟩
          case measure => simp [intOf]; omega
        · by_cases hb2 : (l.getD n 0 + 1) * slopeF s c t n < (bestTo s c t l n).2
          · have E1 := Lib.hid (show bestTo s c t l (n + 1) = ((n : Int), (l.getD n 0 + 1) * slopeF s c t n) from by simp only [bestTo, if_neg hc, if_pos (Or.inr hb2)])
            generalize l.getD n 0 = kn at *
            go_wp2_with fail
            refine wp_region_bkd_all (by kernel_rfl) (by kernel_rfl) ?_
            repeat (go_big_quiet_step (first | (go_at_call 30; exact Calls.bkd_of_below (hwid.out _ _)) | (go_at_call 163; exact hcap.out _ _)))
            refine wpQuiet_nil ?_
            rintro _ ⟨x, rfl⟩
            go_wp2_with fail
            refine wp_region_bkd_all (by kernel_rfl) (by kernel_rfl) ?_
            repeat (go_big_quiet_step (first | (go_at_call 164; exact Calls.bkd_of_below (hslo.out _ _))))
            refine wpQuiet_nil ?_
            rintro _ ⟨x, rfl⟩
            go_wp2
            go_roundw
            case rel => exact ⟨n + 1, by omega, by go_num, by rw [E1.out], by rw [E1.out], _, rfl⟩
            case measure => simp [intOf]; omega
          · have E1 := Lib.hid (show bestTo s c t l (n + 1) = bestTo s c t l n from by simp only [bestTo, if_neg hc, if_neg (not_or.2 ⟨hb1, hb2⟩)])
            generalize l.getD n 0 = kn at *
            go_wp2_with fail
            refine wp_region_bkd_all (by kernel_rfl) (by kernel_rfl) ?_
            repeat (go_big_quiet_step (first | (go_at_call 30; exact Calls.bkd_of_below (hwid.out _ _)) | (go_at_call 163; exact hcap.out _ _)))
            refine wpQuiet_nil ?_
            rintro _ ⟨x, rfl⟩
            go_wp2_with fail
            refine wp_region_bkd_all (by kernel_rfl) (by kernel_rfl) ?_
            repeat (go_big_quiet_step (first | (go_at_call 164; exact Calls.bkd_of_below (hslo.out _ _))))
            refine wpQuiet_nil ?_
            rintro _ ⟨x, rfl⟩
            go_wp2
            go_roundw
            case rel => exact ⟨n + 1, by omega, by go_num, by rw [E1.out], by rw [E1.out], _, rfl⟩
            case measure => simp [intOf]; omega
    · have hlt' : ¬(n : Int) < (NB : Int) := by omega
      have hn5 : n = NB := by omega
      rw [← hn5] at E
      clear hn5
      go_wp2
      go_ret
      exact ⟨ret_int E.out.symm, bkInv_as (hWi.bkd _)⟩
end Go.Proofs.YtbcdnbbpkikppaaDoor
end

section
namespace Go.Proofs.YtbcdnbbpkikppaaDoor
open Go.RowKit Go.BigFrame Go.Vec Go.Cost
set_option linter.unusedSimpArgs false
def allocGo (s c t bud : Int) : Nat → List Int → List Int
  | 0, l => l
  | f + 1, l => if bestF s c t l < 0 then l else if totalF s c (l.set (bestF s c t l).toNat (l.getD (bestF s c t l).toNat 0 + 1)) > bud then l else allocGo s c t bud f (l.set (bestF s c t l).toNat (l.getD (bestF s c t l).toNat 0 + 1))
def allocF (s c t bud : Int) : List Int := allocGo s c t bud 161 [0, 0, 0, 0, 0]
def aggOf (l : List Int) : Value := .agg (l.map fun x => Value.int .i64 x).toArray
theorem bestTo_cap (s c t : Int) (l : List Int) : ∀ n : Nat, 0 ≤ (bestTo s c t l n).1 → l.getD (bestTo s c t l n).1.toNat 0 < capF (widthF s c (bestTo s c t l n).1)
  | 0, h => by simp [bestTo] at h
  | n + 1, h => by
    have ih := bestTo_cap s c t l n
    simp only [bestTo] at h ⊢
    split
    · rename_i hc
      rw [if_pos hc] at h
      exact ih h
    · rename_i hc
      rw [if_neg hc] at h
      split
      · simp only [Int.toNat_natCast]
        omega
      · rename_i h2
        rw [if_neg h2] at h
        exact ih h
theorem bestF_facts (s c t : Int) (l : List Int) : bestF s c t l < 5 ∧ (0 ≤ bestF s c t l → l.getD (bestF s c t l).toNat 0 < 32) := by
  have h1 := bestTo_bd s c t l (bandsF s c).toNat
  have h2 := bestTo_cap s c t l (bandsF s c).toNat
  have h3 := bandsF_bd s c
  have h4 := capF_bd (widthF s c (bestTo s c t l (bandsF s c).toNat).1)
  unfold bestF
  exact ⟨by omega, fun h => by have := h2 h; omega⟩
set_option maxHeartbeats 2000000 in
set_option maxRecDepth 100000 in
theorem alloc_any (s c t bud : Int) (b m : Nat) (w : World) (hB : Book b m w) (hT : WidthW w) :
    Calls Tryd.prog 154 #[.pointer (some ⟨b, 0, none⟩), .agg #[.int .i64 s, .int .i64 c], .int .i64 t, .int .i64 bud] w fun e w' => e = .returned (aggOf (allocF s c t bud)) ∧ Bk m w w' := by
  have hml := hB.lt_m
  have d0 : m ≠ w.heap.size := by omega
  have d1 : m ≠ w.heap.size + 1 := by omega
  have d2 : m ≠ w.heap.size + 2 := by omega
  obtain ⟨A, hA⟩ : ∃ A, A = allocF s c t bud := ⟨_, rfl⟩
  rw [← hA]
  have HA := Lib.hid hA
  clear hA
  go_enter Tryd.func154, Tryd.ntmps154
  go_wp2_with fail
  go_loopw [10] (fun _ wr => ∃ l0 l1 l2 l3 l4 : Nat, l0 ≤ 32 ∧ l1 ≤ 32 ∧ l2 ≤ 32 ∧ l3 ≤ 32 ∧ l4 ≤ 32 ∧ allocGo s c t bud (161 - (l0 + l1 + l2 + l3 + l4)) [(l0 : Int), l1, l2, l3, l4] = A ∧ ∃ y, wr = (((w.alloc (.cells #[.int .i64 s, .int .i64 c] 53)).alloc (.cells #[.int .i64 0, .int .i64 0, .int .i64 0, .int .i64 0, .int .i64 0] 29)).alloc (.cells #[.int .i64 l0, .int .i64 l1, .int .i64 l2, .int .i64 l3, .int .i64 l4] 29)).bkd m y)
    (fun _ wr => 160 - ((intOf ((wr.cell? ⟨w.heap.size + 2, 0, none⟩).getD (.bool false))).toNat + (intOf ((wr.cell? ⟨w.heap.size + 2, 1, none⟩).getD (.bool false))).toNat + (intOf ((wr.cell? ⟨w.heap.size + 2, 2, none⟩).getD (.bool false))).toNat + (intOf ((wr.cell? ⟨w.heap.size + 2, 3, none⟩).getD (.bool false))).toNat + (intOf ((wr.cell? ⟨w.heap.size + 2, 4, none⟩).getD (.bool false))).toNat))
  case atStart =>
    have hi : Book b m (((w.alloc (.cells #[.int .i64 s, .int .i64 c] 53)).alloc (.cells #[.int .i64 0, .int .i64 0, .int .i64 0, .int .i64 0, .int .i64 0] 29)).alloc (.cells #[.int .i64 0, .int .i64 0, .int .i64 0, .int .i64 0, .int .i64 0] 29)) := hB.inv (((hB.refl.alloc _).alloc _).alloc _)
    obtain ⟨y0, hy0⟩ := bkInv_as hi.refl
    exact ⟨0, 0, 0, 0, 0, by omega, by omega, by omega, by omega, by omega, HA.out.symm, y0, hy0⟩
  case round =>
    obtain ⟨l0, l1, l2, l3, l4, b0, b1, b2, b3, b4, hgo, y, rfl⟩ := hrel
    have hW : BkInv m w ((((w.alloc (.cells #[.int .i64 s, .int .i64 c] 53)).alloc (.cells #[.int .i64 0, .int .i64 0, .int .i64 0, .int .i64 0, .int .i64 0] 29)).alloc (.cells #[.int .i64 l0, .int .i64 l1, .int .i64 l2, .int .i64 l3, .int .i64 l4] 29)).bkd m y) := (((hB.refl.alloc _).alloc _).alloc _).bkd y
    have hbest := Lib.hid (best_any s c t l0 l1 l2 l3 l4 (fun n hn => by
      have : n = 0 ∨ n = 1 ∨ n = 2 ∨ n = 3 ∨ n = 4 := by omega
      rcases this with rfl | rfl | rfl | rfl | rfl <;> simp <;> omega) b m _ (hB.inv hW) (hT.inv hB hW))
    obtain ⟨f1, f2⟩ := bestF_facts s c t [(l0 : Int), l1, l2, l3, l4]
    have F2 := Lib.hid f2
    have HG := Lib.hid hgo
    clear f2 hgo hW
    by_cases hneg : bestF s c t [(l0 : Int), l1, l2, l3, l4] < 0
    · have E := Lib.hid (show A = [(l0 : Int), l1, l2, l3, l4] from by
        rw [← HG.out, show 161 - (l0 + l1 + l2 + l3 + l4) = (160 - (l0 + l1 + l2 + l3 + l4)) + 1 by omega]
        simp only [allocGo]
        rw [if_pos hneg])
      generalize bestF s c t [(l0 : Int), l1, l2, l3, l4] = bf at *
      go_wp2_with fail
      refine hbest.out.mono ?_
      rintro e w' ⟨rfl, y1, rfl⟩
      go_wp2_with fail
      refine bodyPost_ret (v := _) (by simp [results, Tryd.results154, go_sem, d1]; rfl) rfl ⟨?_, ?_⟩
      · rw [E.out]; rfl
      · exact bkInv_as (by (repeat' (first | with_reducible (first | assumption | exact BookOK.refl ‹_› | refine BkInv.alloc ?_ _ | refine BkInv.grew ?_ _ | refine BkInv.bkd ?_ _ | refine BkInv.setCell ?_ ?_ _ | refine BkInv.drew ?_ | refine BkInv.drewN ?_ _) | omega | (simp; done) | (simp; omega))))
    · have hf := F2.out (by omega)
      have hbf : bestF s c t [(l0 : Int), l1, l2, l3, l4] = 0 ∨ bestF s c t [(l0 : Int), l1, l2, l3, l4] = 1 ∨ bestF s c t [(l0 : Int), l1, l2, l3, l4] = 2 ∨ bestF s c t [(l0 : Int), l1, l2, l3, l4] = 3 ∨ bestF s c t [(l0 : Int), l1, l2, l3, l4] = 4 := by omega
      rcases hbf with hbf | hbf | hbf | hbf | hbf
      · have E := Lib.hid (show allocGo s c t bud ((160 - (l0 + l1 + l2 + l3 + l4)) + 1) [(l0 : Int), l1, l2, l3, l4] = A from by rw [show (160 - (l0 + l1 + l2 + l3 + l4)) + 1 = 161 - (l0 + l1 + l2 + l3 + l4) by omega]; exact HG.out)
        simp only [allocGo, if_neg hneg] at E
        rw [hbf] at E hf hbest
        simp only [show (2 : Int).toNat = 2 from rfl, show (3 : Int).toNat = 3 from rfl, show (4 : Int).toNat = 4 from rfl, Int.toNat_zero, Int.toNat_one, List.set_cons_zero, List.set_cons_succ, List.getD_cons_zero, List.getD_cons_succ] at E hf
        clear hbf hneg f1
        go_wp2_with fail
        refine hbest.out.mono ?_
        rintro e w' ⟨rfl, y1, rfl⟩
        go_wp2_with fail
        refine (total_any s c _ _ _ _ _ b m _ (hB.inv ?_) (hT.inv hB ?_)).mono ?_
        · (repeat' (first | with_reducible (first | assumption | exact BookOK.refl ‹_› | refine BkInv.alloc ?_ _ | refine BkInv.grew ?_ _ | refine BkInv.bkd ?_ _ | refine BkInv.setCell ?_ ?_ _ | refine BkInv.drew ?_ | refine BkInv.drewN ?_ _) | omega | (simp; done) | (simp; omega)))
        · (repeat' (first | with_reducible (first | assumption | exact BookOK.refl ‹_› | refine BkInv.alloc ?_ _ | refine BkInv.grew ?_ _ | refine BkInv.bkd ?_ _ | refine BkInv.setCell ?_ ?_ _ | refine BkInv.drew ?_ | refine BkInv.drewN ?_ _) | omega | (simp; done) | (simp; omega)))
        rintro e w' ⟨rfl, y2, rfl⟩
        by_cases hov : bud < totalF s c [(l0 : Int) + 1, (l1 : Int), (l2 : Int), (l3 : Int), (l4 : Int)]
        · have E2 := Lib.hid ((if_pos hov).symm.trans E.out)
          generalize totalF s c [(l0 : Int) + 1, (l1 : Int), (l2 : Int), (l3 : Int), (l4 : Int)] = T at *
          go_wp2_with fail
          refine bodyPost_ret (v := _) (by simp [results, Tryd.results154, go_sem, d1]; rfl) rfl ⟨?_, ?_⟩
          · rw [← E2.out]; rfl
          · exact bkInv_as (by (repeat' (first | with_reducible (first | assumption | exact BookOK.refl ‹_› | refine BkInv.alloc ?_ _ | refine BkInv.grew ?_ _ | refine BkInv.bkd ?_ _ | refine BkInv.setCell ?_ ?_ _ | refine BkInv.drew ?_ | refine BkInv.drewN ?_ _) | omega | (simp; done) | (simp; omega))))
        · have E2 := Lib.hid ((if_neg hov).symm.trans E.out)
          generalize totalF s c [(l0 : Int) + 1, (l1 : Int), (l2 : Int), (l3 : Int), (l4 : Int)] = T at *
          go_wp2_with fail
          go_roundw
          case rel =>
            have hWl := hB.inv (((hB.refl.alloc (.cells #[.int .i64 s, .int .i64 c] 53)).alloc (.cells #[.int .i64 0, .int .i64 0, .int .i64 0, .int .i64 0, .int .i64 0] 29)).alloc (.cells #[.int .i64 ((l0 : Int) + 1), .int .i64 (l1 : Int), .int .i64 (l2 : Int), .int .i64 (l3 : Int), .int .i64 (l4 : Int)] 29))
            refine ⟨l0 + 1, l1, l2, l3, l4, by omega, by omega, by omega, by omega, by omega, ?_, ?_⟩
            · rw [show 161 - ((l0 + 1) + l1 + l2 + l3 + l4) = 160 - (l0 + l1 + l2 + l3 + l4) by omega]
              push_cast
              exact E2.out
            · push_cast
              exact bkInv_as (by (repeat' (first | with_reducible (first | assumption | exact BookOK.refl ‹_› | refine BkInv.alloc ?_ _ | refine BkInv.grew ?_ _ | refine BkInv.bkd ?_ _ | refine BkInv.setCell ?_ ?_ _ | refine BkInv.drew ?_ | refine BkInv.drewN ?_ _) | omega | (simp; done) | (simp; omega))))
          case measure =>
            simp [go_sem, d2, intOf]
            omega
      · have E := Lib.hid (show allocGo s c t bud ((160 - (l0 + l1 + l2 + l3 + l4)) + 1) [(l0 : Int), l1, l2, l3, l4] = A from by rw [show (160 - (l0 + l1 + l2 + l3 + l4)) + 1 = 161 - (l0 + l1 + l2 + l3 + l4) by omega]; exact HG.out)
        simp only [allocGo, if_neg hneg] at E
        rw [hbf] at E hf hbest
        simp only [show (2 : Int).toNat = 2 from rfl, show (3 : Int).toNat = 3 from rfl, show (4 : Int).toNat = 4 from rfl, Int.toNat_zero, Int.toNat_one, List.set_cons_zero, List.set_cons_succ, List.getD_cons_zero, List.getD_cons_succ] at E hf
        clear hbf hneg f1
        go_wp2_with fail
        refine hbest.out.mono ?_
        rintro e w' ⟨rfl, y1, rfl⟩
        go_wp2_with fail
        refine (total_any s c _ _ _ _ _ b m _ (hB.inv ?_) (hT.inv hB ?_)).mono ?_
        · (repeat' (first | with_reducible (first | assumption | exact BookOK.refl ‹_› | refine BkInv.alloc ?_ _ | refine BkInv.grew ?_ _ | refine BkInv.bkd ?_ _ | refine BkInv.setCell ?_ ?_ _ | refine BkInv.drew ?_ | refine BkInv.drewN ?_ _) | omega | (simp; done) | (simp; omega)))
        · (repeat' (first | with_reducible (first | assumption | exact BookOK.refl ‹_› | refine BkInv.alloc ?_ _ | refine BkInv.grew ?_ _ | refine BkInv.bkd ?_ _ | refine BkInv.setCell ?_ ?_ _ | refine BkInv.drew ?_ | refine BkInv.drewN ?_ _) | omega | (simp; done) | (simp; omega)))
        rintro e w' ⟨rfl, y2, rfl⟩
        by_cases hov : bud < totalF s c [(l0 : Int), (l1 : Int) + 1, (l2 : Int), (l3 : Int), (l4 : Int)]
        · have E2 := Lib.hid ((if_pos hov).symm.trans E.out)
          generalize totalF s c [(l0 : Int), (l1 : Int) + 1, (l2 : Int), (l3 : Int), (l4 : Int)] = T at *
          go_wp2_with fail
          refine bodyPost_ret (v := _) (by simp [results, Tryd.results154, go_sem, d1]; rfl) rfl ⟨?_, ?_⟩
          · rw [← E2.out]; rfl
          · exact bkInv_as (by (repeat' (first | with_reducible (first | assumption | exact BookOK.refl ‹_› | refine BkInv.alloc ?_ _ | refine BkInv.grew ?_ _ | refine BkInv.bkd ?_ _ | refine BkInv.setCell ?_ ?_ _ | refine BkInv.drew ?_ | refine BkInv.drewN ?_ _) | omega | (simp; done) | (simp; omega))))
        · have E2 := Lib.hid ((if_neg hov).symm.trans E.out)
          generalize totalF s c [(l0 : Int), (l1 : Int) + 1, (l2 : Int), (l3 : Int), (l4 : Int)] = T at *
          go_wp2_with fail
          go_roundw
          case rel =>
            have hWl := hB.inv (((hB.refl.alloc (.cells #[.int .i64 s, .int .i64 c] 53)).alloc (.cells #[.int .i64 0, .int .i64 0, .int .i64 0, .int .i64 0, .int .i64 0] 29)).alloc (.cells #[.int .i64 (l0 : Int), .int .i64 ((l1 : Int) + 1), .int .i64 (l2 : Int), .int .i64 (l3 : Int), .int .i64 (l4 : Int)] 29))
            refine ⟨l0, l1 + 1, l2, l3, l4, by omega, by omega, by omega, by omega, by omega, ?_, ?_⟩
            · rw [show 161 - (l0 + (l1 + 1) + l2 + l3 + l4) = 160 - (l0 + l1 + l2 + l3 + l4) by omega]
              push_cast
              exact E2.out
            · push_cast
              exact bkInv_as (by (repeat' (first | with_reducible (first | assumption | exact BookOK.refl ‹_› | refine BkInv.alloc ?_ _ | refine BkInv.grew ?_ _ | refine BkInv.bkd ?_ _ | refine BkInv.setCell ?_ ?_ _ | refine BkInv.drew ?_ | refine BkInv.drewN ?_ _) | omega | (simp; done) | (simp; omega))))
          case measure =>
            simp [go_sem, d2, intOf]
            omega
      · have E := Lib.hid (show allocGo s c t bud ((160 - (l0 + l1 + l2 + l3 + l4)) + 1) [(l0 : Int), l1, l2, l3, l4] = A from by rw [show (160 - (l0 + l1 + l2 + l3 + l4)) + 1 = 161 - (l0 + l1 + l2 + l3 + l4) by omega]; exact HG.out)
        simp only [allocGo, if_neg hneg] at E
        rw [hbf] at E hf hbest
        simp only [show (2 : Int).toNat = 2 from rfl, show (3 : Int).toNat = 3 from rfl, show (4 : Int).toNat = 4 from rfl, Int.toNat_zero, Int.toNat_one, List.set_cons_zero, List.set_cons_succ, List.getD_cons_zero, List.getD_cons_succ] at E hf
        clear hbf hneg f1
        go_wp2_with fail
        refine hbest.out.mono ?_
        rintro e w' ⟨rfl, y1, rfl⟩
        go_wp2_with fail
        refine (total_any s c _ _ _ _ _ b m _ (hB.inv ?_) (hT.inv hB ?_)).mono ?_
        · (repeat' (first | with_reducible (first | assumption | exact BookOK.refl ‹_› | refine BkInv.alloc ?_ _ | refine BkInv.grew ?_ _ | refine BkInv.bkd ?_ _ | refine BkInv.setCell ?_ ?_ _ | refine BkInv.drew ?_ | refine BkInv.drewN ?_ _) | omega | (simp; done) | (simp; omega)))
        · (repeat' (first | with_reducible (first | assumption | exact BookOK.refl ‹_› | refine BkInv.alloc ?_ _ | refine BkInv.grew ?_ _ | refine BkInv.bkd ?_ _ | refine BkInv.setCell ?_ ?_ _ | refine BkInv.drew ?_ | refine BkInv.drewN ?_ _) | omega | (simp; done) | (simp; omega)))
        rintro e w' ⟨rfl, y2, rfl⟩
        by_cases hov : bud < totalF s c [(l0 : Int), (l1 : Int), (l2 : Int) + 1, (l3 : Int), (l4 : Int)]
        · have E2 := Lib.hid ((if_pos hov).symm.trans E.out)
          generalize totalF s c [(l0 : Int), (l1 : Int), (l2 : Int) + 1, (l3 : Int), (l4 : Int)] = T at *
          go_wp2_with fail
          refine bodyPost_ret (v := _) (by simp [results, Tryd.results154, go_sem, d1]; rfl) rfl ⟨?_, ?_⟩
          · rw [← E2.out]; rfl
          · exact bkInv_as (by (repeat' (first | with_reducible (first | assumption | exact BookOK.refl ‹_› | refine BkInv.alloc ?_ _ | refine BkInv.grew ?_ _ | refine BkInv.bkd ?_ _ | refine BkInv.setCell ?_ ?_ _ | refine BkInv.drew ?_ | refine BkInv.drewN ?_ _) | omega | (simp; done) | (simp; omega))))
        · have E2 := Lib.hid ((if_neg hov).symm.trans E.out)
          generalize totalF s c [(l0 : Int), (l1 : Int), (l2 : Int) + 1, (l3 : Int), (l4 : Int)] = T at *
          go_wp2_with fail
          go_roundw
          case rel =>
            have hWl := hB.inv (((hB.refl.alloc (.cells #[.int .i64 s, .int .i64 c] 53)).alloc (.cells #[.int .i64 0, .int .i64 0, .int .i64 0, .int .i64 0, .int .i64 0] 29)).alloc (.cells #[.int .i64 (l0 : Int), .int .i64 (l1 : Int), .int .i64 ((l2 : Int) + 1), .int .i64 (l3 : Int), .int .i64 (l4 : Int)] 29))
            refine ⟨l0, l1, l2 + 1, l3, l4, by omega, by omega, by omega, by omega, by omega, ?_, ?_⟩
            · rw [show 161 - (l0 + l1 + (l2 + 1) + l3 + l4) = 160 - (l0 + l1 + l2 + l3 + l4) by omega]
              push_cast
              exact E2.out
            · push_cast
              exact bkInv_as (by (repeat' (first | with_reducible (first | assumption | exact BookOK.refl ‹_› | refine BkInv.alloc ?_ _ | refine BkInv.grew ?_ _ | refine BkInv.bkd ?_ _ | refine BkInv.setCell ?_ ?_ _ | refine BkInv.drew ?_ | refine BkInv.drewN ?_ _) | omega | (simp; done) | (simp; omega))))
          case measure =>
            simp [go_sem, d2, intOf]
            omega
      · have E := Lib.hid (show allocGo s c t bud ((160 - (l0 + l1 + l2 + l3 + l4)) + 1) [(l0 : Int), l1, l2, l3, l4] = A from by rw [show (160 - (l0 + l1 + l2 + l3 + l4)) + 1 = 161 - (l0 + l1 + l2 + l3 + l4) by omega]; exact HG.out)
        simp only [allocGo, if_neg hneg] at E
        rw [hbf] at E hf hbest
        simp only [show (2 : Int).toNat = 2 from rfl, show (3 : Int).toNat = 3 from rfl, show (4 : Int).toNat = 4 from rfl, Int.toNat_zero, Int.toNat_one, List.set_cons_zero, List.set_cons_succ, List.getD_cons_zero, List.getD_cons_succ] at E hf
        clear hbf hneg f1
        go_wp2_with fail
        refine hbest.out.mono ?_
        rintro e w' ⟨rfl, y1, rfl⟩
        go_wp2_with fail
        refine (total_any s c _ _ _ _ _ b m _ (hB.inv ?_) (hT.inv hB ?_)).mono ?_
        · (repeat' (first | with_reducible (first | assumption | exact BookOK.refl ‹_› | refine BkInv.alloc ?_ _ | refine BkInv.grew ?_ _ | refine BkInv.bkd ?_ _ | refine BkInv.setCell ?_ ?_ _ | refine BkInv.drew ?_ | refine BkInv.drewN ?_ _) | omega | (simp; done) | (simp; omega)))
        · (repeat' (first | with_reducible (first | assumption | exact BookOK.refl ‹_› | refine BkInv.alloc ?_ _ | refine BkInv.grew ?_ _ | refine BkInv.bkd ?_ _ | refine BkInv.setCell ?_ ?_ _ | refine BkInv.drew ?_ | refine BkInv.drewN ?_ _) | omega | (simp; done) | (simp; omega)))
        rintro e w' ⟨rfl, y2, rfl⟩
        by_cases hov : bud < totalF s c [(l0 : Int), (l1 : Int), (l2 : Int), (l3 : Int) + 1, (l4 : Int)]
        · have E2 := Lib.hid ((if_pos hov).symm.trans E.out)
          generalize totalF s c [(l0 : Int), (l1 : Int), (l2 : Int), (l3 : Int) + 1, (l4 : Int)] = T at *
          go_wp2_with fail
          refine bodyPost_ret (v := _) (by simp [results, Tryd.results154, go_sem, d1]; rfl) rfl ⟨?_, ?_⟩
          · rw [← E2.out]; rfl
          · exact bkInv_as (by (repeat' (first | with_reducible (first | assumption | exact BookOK.refl ‹_› | refine BkInv.alloc ?_ _ | refine BkInv.grew ?_ _ | refine BkInv.bkd ?_ _ | refine BkInv.setCell ?_ ?_ _ | refine BkInv.drew ?_ | refine BkInv.drewN ?_ _) | omega | (simp; done) | (simp; omega))))
        · have E2 := Lib.hid ((if_neg hov).symm.trans E.out)
          generalize totalF s c [(l0 : Int), (l1 : Int), (l2 : Int), (l3 : Int) + 1, (l4 : Int)] = T at *
          go_wp2_with fail
          go_roundw
          case rel =>
            have hWl := hB.inv (((hB.refl.alloc (.cells #[.int .i64 s, .int .i64 c] 53)).alloc (.cells #[.int .i64 0, .int .i64 0, .int .i64 0, .int .i64 0, .int .i64 0] 29)).alloc (.cells #[.int .i64 (l0 : Int), .int .i64 (l1 : Int), .int .i64 (l2 : Int), .int .i64 ((l3 : Int) + 1), .int .i64 (l4 : Int)] 29))
            refine ⟨l0, l1, l2, l3 + 1, l4, by omega, by omega, by omega, by omega, by omega, ?_, ?_⟩
            · rw [show 161 - (l0 + l1 + l2 + (l3 + 1) + l4) = 160 - (l0 + l1 + l2 + l3 + l4) by omega]
              push_cast
              exact E2.out
            · push_cast
              exact bkInv_as (by (repeat' (first | with_reducible (first | assumption | exact BookOK.refl ‹_› | refine BkInv.alloc ?_ _ | refine BkInv.grew ?_ _ | refine BkInv.bkd ?_ _ | refine BkInv.setCell ?_ ?_ _ | refine BkInv.drew ?_ | refine BkInv.drewN ?_ _) | omega | (simp; done) | (simp; omega))))
          case measure =>
            simp [go_sem, d2, intOf]
            omega
      · have E := Lib.hid (show allocGo s c t bud ((160 - (l0 + l1 + l2 + l3 + l4)) + 1) [(l0 : Int), l1, l2, l3, l4] = A from by rw [show (160 - (l0 + l1 + l2 + l3 + l4)) + 1 = 161 - (l0 + l1 + l2 + l3 + l4) by omega]; exact HG.out)
        simp only [allocGo, if_neg hneg] at E
        rw [hbf] at E hf hbest
        simp only [show (2 : Int).toNat = 2 from rfl, show (3 : Int).toNat = 3 from rfl, show (4 : Int).toNat = 4 from rfl, Int.toNat_zero, Int.toNat_one, List.set_cons_zero, List.set_cons_succ, List.getD_cons_zero, List.getD_cons_succ] at E hf
        clear hbf hneg f1
        go_wp2_with fail
        refine hbest.out.mono ?_
        rintro e w' ⟨rfl, y1, rfl⟩
        go_wp2_with fail
        refine (total_any s c _ _ _ _ _ b m _ (hB.inv ?_) (hT.inv hB ?_)).mono ?_
        · (repeat' (first | with_reducible (first | assumption | exact BookOK.refl ‹_› | refine BkInv.alloc ?_ _ | refine BkInv.grew ?_ _ | refine BkInv.bkd ?_ _ | refine BkInv.setCell ?_ ?_ _ | refine BkInv.drew ?_ | refine BkInv.drewN ?_ _) | omega | (simp; done) | (simp; omega)))
        · (repeat' (first | with_reducible (first | assumption | exact BookOK.refl ‹_› | refine BkInv.alloc ?_ _ | refine BkInv.grew ?_ _ | refine BkInv.bkd ?_ _ | refine BkInv.setCell ?_ ?_ _ | refine BkInv.drew ?_ | refine BkInv.drewN ?_ _) | omega | (simp; done) | (simp; omega)))
        rintro e w' ⟨rfl, y2, rfl⟩
        by_cases hov : bud < totalF s c [(l0 : Int), (l1 : Int), (l2 : Int), (l3 : Int), (l4 : Int) + 1]
        · have E2 := Lib.hid ((if_pos hov).symm.trans E.out)
          generalize totalF s c [(l0 : Int), (l1 : Int), (l2 : Int), (l3 : Int), (l4 : Int) + 1] = T at *
          go_wp2_with fail
          refine bodyPost_ret (v := _) (by simp [results, Tryd.results154, go_sem, d1]; rfl) rfl ⟨?_, ?_⟩
          · rw [← E2.out]; rfl
          · exact bkInv_as (by (repeat' (first | with_reducible (first | assumption | exact BookOK.refl ‹_› | refine BkInv.alloc ?_ _ | refine BkInv.grew ?_ _ | refine BkInv.bkd ?_ _ | refine BkInv.setCell ?_ ?_ _ | refine BkInv.drew ?_ | refine BkInv.drewN ?_ _) | omega | (simp; done) | (simp; omega))))
        · have E2 := Lib.hid ((if_neg hov).symm.trans E.out)
          generalize totalF s c [(l0 : Int), (l1 : Int), (l2 : Int), (l3 : Int), (l4 : Int) + 1] = T at *
          go_wp2_with fail
          go_roundw
          case rel =>
            have hWl := hB.inv (((hB.refl.alloc (.cells #[.int .i64 s, .int .i64 c] 53)).alloc (.cells #[.int .i64 0, .int .i64 0, .int .i64 0, .int .i64 0, .int .i64 0] 29)).alloc (.cells #[.int .i64 (l0 : Int), .int .i64 (l1 : Int), .int .i64 (l2 : Int), .int .i64 (l3 : Int), .int .i64 ((l4 : Int) + 1)] 29))
            refine ⟨l0, l1, l2, l3, l4 + 1, by omega, by omega, by omega, by omega, by omega, ?_, ?_⟩
            · rw [show 161 - (l0 + l1 + l2 + l3 + (l4 + 1)) = 160 - (l0 + l1 + l2 + l3 + l4) by omega]
              push_cast
              exact E2.out
            · push_cast
              exact bkInv_as (by (repeat' (first | with_reducible (first | assumption | exact BookOK.refl ‹_› | refine BkInv.alloc ?_ _ | refine BkInv.grew ?_ _ | refine BkInv.bkd ?_ _ | refine BkInv.setCell ?_ ?_ _ | refine BkInv.drew ?_ | refine BkInv.drewN ?_ _) | omega | (simp; done) | (simp; omega))))
          case measure =>
            simp [go_sem, d2, intOf]
            omega
end Go.Proofs.YtbcdnbbpkikppaaDoor
end

section
namespace Go.Proofs.YtbcdnbbpkikppaaDoor
open Go.Vec Go.Cost
/-- Each band has at most what it may have; what is no band has none. -/
def FitL (s c : Int) (l : List Int) : Prop := l.length = 5 ∧ ∀ i : Nat, i < 5 → 0 ≤ l.getD i 0 ∧ (if (i : Int) < bandsF s c then l.getD i 0 ≤ capF (widthF s c i) else l.getD i 0 = 0)
def sum5 (l : List Int) : Int := l.getD 0 0 + l.getD 1 0 + l.getD 2 0 + l.getD 3 0 + l.getD 4 0
theorem bitsF_pos (n k : Int) (h0 : 0 ≤ k) (h : k ≤ capF n) : 0 ≤ bitsF n k := by
  unfold bitsF
  rw [if_pos ⟨h0, h⟩]
  omega
theorem fit_ok {s c : Int} {l : List Int} (h : FitL s c l) (i : Nat) (hi : i < 5) : okAt s c l i = true ∧ 0 ≤ costAt s c l i := by
  obtain ⟨h0, h1⟩ := h.2 i hi
  unfold okAt costAt
  split
  · rename_i hb
    rw [if_pos hb] at h1
    have := bitsF_pos _ _ h0 h1
    exact ⟨by simpa using this, this⟩
  · rename_i hb
    rw [if_neg hb] at h1
    exact ⟨by simpa using h1, by omega⟩
theorem fit_total {s c : Int} {l : List Int} (hR : RightP s c) (h : FitL s c l) : 0 ≤ totalF s c l := by
  have o : okTo s c l 5 = true := by
    simp only [okTo, (fit_ok h 0 (by omega)).1, (fit_ok h 1 (by omega)).1, (fit_ok h 2 (by omega)).1, (fit_ok h 3 (by omega)).1, (fit_ok h 4 (by omega)).1, Bool.and_true]
  have a0 := (fit_ok h 0 (by omega)).2
  have a1 := (fit_ok h 1 (by omega)).2
  have a2 := (fit_ok h 2 (by omega)).2
  have a3 := (fit_ok h 3 (by omega)).2
  have a4 := (fit_ok h 4 (by omega)).2
  unfold totalF
  rw [if_pos ⟨hR, o⟩]
  refine Int.mul_nonneg ?_ (by unfold RightP at hR; omega)
  simp only [sumAt]
  omega
theorem bestF_lt (s c t : Int) (l : List Int) : bestF s c t l < bandsF s c := by
  have h1 := bestTo_bd s c t l (bandsF s c).toNat
  have h3 := bandsF_bd s c
  unfold bestF
  by_cases hz : bandsF s c = 0
  · rw [hz] at h1 ⊢
    simp [bestTo]
  · omega
theorem bestF_cap (s c t : Int) (l : List Int) (h : 0 ≤ bestF s c t l) : l.getD (bestF s c t l).toNat 0 < capF (widthF s c (bestF s c t l)) := bestTo_cap s c t l _ h
theorem set5 {l : List Int} (hl : l.length = 5) (b : Nat) (hb : b < 5) (x : Int) (i : Nat) (hi : i < 5) : (l.set b x).getD i 0 = if i = b then x else l.getD i 0 := by
  simp only [List.getD_eq_getElem?_getD, List.getElem?_set]
  by_cases e : b = i
  · subst e; simp [hl, hb]
  · rw [if_neg e, if_neg (fun h => e h.symm)]
theorem fit_step {s c t : Int} {l : List Int} (h : FitL s c l) (hb : 0 ≤ bestF s c t l) :
    FitL s c (l.set (bestF s c t l).toNat (l.getD (bestF s c t l).toNat 0 + 1)) ∧ sum5 (l.set (bestF s c t l).toNat (l.getD (bestF s c t l).toNat 0 + 1)) = sum5 l + 1 := by
  have hlt := bestF_lt s c t l
  have hcap := bestF_cap s c t l hb
  have hbd := bandsF_bd s c
  obtain ⟨B, hB⟩ := Int.eq_ofNat_of_zero_le hb
  rw [hB] at hlt hcap ⊢
  simp only [Int.toNat_natCast] at hcap ⊢
  have hB5 : B < 5 := by omega
  refine ⟨⟨by simpa using h.1, fun i hi => ?_⟩, ?_⟩
  · rw [set5 h.1 B hB5 _ i hi]
    obtain ⟨h0, h1⟩ := h.2 i hi
    by_cases e : i = B
    · subst e
      rw [if_pos rfl, if_pos hlt]
      exact ⟨by omega, by omega⟩
    · rw [if_neg e]
      exact ⟨h0, h1⟩
  · unfold sum5
    rw [set5 h.1 B hB5 _ 0 (by omega), set5 h.1 B hB5 _ 1 (by omega), set5 h.1 B hB5 _ 2 (by omega), set5 h.1 B hB5 _ 3 (by omega), set5 h.1 B hB5 _ 4 (by omega)]
    have : B = 0 ∨ B = 1 ∨ B = 2 ∨ B = 3 ∨ B = 4 := by omega
    rcases this with rfl | rfl | rfl | rfl | rfl <;> simp <;> omega
theorem fit_sum {s c : Int} {l : List Int} (h : FitL s c l) : sum5 l ≤ 160 := by
  have key : ∀ i : Nat, i < 5 → l.getD i 0 ≤ 32 := fun i hi => by
    obtain ⟨h0, h1⟩ := h.2 i hi
    split at h1
    · have := capF_bd (widthF s c i); omega
    · omega
  have := key 0 (by omega)
  have := key 1 (by omega)
  have := key 2 (by omega)
  have := key 3 (by omega)
  have := key 4 (by omega)
  unfold sum5
  omega
/-- At the end: none may have one more, or one more costs too much. -/
def Done (s c t bud : Int) (r : List Int) : Prop := bestF s c t r < 0 ∨ bud < totalF s c (r.set (bestF s c t r).toNat (r.getD (bestF s c t r).toNat 0 + 1))
theorem allocGo_fits {s c : Int} (t bud : Int) : ∀ (f : Nat) (l : List Int), FitL s c l → 160 - sum5 l < f →
    FitL s c (allocGo s c t bud f l) ∧ (totalF s c (allocGo s c t bud f l) = totalF s c l ∨ totalF s c (allocGo s c t bud f l) ≤ bud) ∧ Done s c t bud (allocGo s c t bud f l)
  | 0, l, h, hf => by have := fit_sum h; omega
  | f + 1, l, h, hf => by
    simp only [allocGo]
    by_cases hb : bestF s c t l < 0
    · rw [if_pos hb]; exact ⟨h, .inl rfl, .inl hb⟩
    · rw [if_neg hb]
      by_cases ht : totalF s c (l.set (bestF s c t l).toNat (l.getD (bestF s c t l).toNat 0 + 1)) > bud
      · rw [if_pos ht]; exact ⟨h, .inl rfl, .inr ht⟩
      · rw [if_neg ht]
        obtain ⟨h1, h2⟩ := fit_step (t := t) h (by omega)
        obtain ⟨a1, a2, a3⟩ := allocGo_fits t bud f _ h1 (by omega)
        refine ⟨a1, .inr ?_, a3⟩
        rcases a2 with a2 | a2 <;> omega
theorem fit_zero (s c : Int) : FitL s c [0, 0, 0, 0, 0] := by
  refine ⟨rfl, fun i hi => ?_⟩
  have e : ([0, 0, 0, 0, 0] : List Int).getD i 0 = 0 := by
    have : i = 0 ∨ i = 1 ∨ i = 2 ∨ i = 3 ∨ i = 4 := by omega
    rcases this with rfl | rfl | rfl | rfl | rfl <;> rfl
  rw [e]
  refine ⟨by omega, ?_⟩
  split
  · rename_i hb
    have hw : widthF s c i = widL.getD i 0 := by unfold widthF; rw [if_pos ⟨by omega, hb⟩]; simp
    rw [hw]
    have h5 : ∀ j : Fin 5, 0 ≤ capF (widL.getD j.val 0) := by decide +kernel
    exact h5 ⟨i, hi⟩
  · rfl
theorem total_zero (s c : Int) (hR : RightP s c) : totalF s c [0, 0, 0, 0, 0] = 0 := by
  have b0 : ∀ i : Nat, i < 5 → costAt s c [0, 0, 0, 0, 0] i = 0 := fun i hi => by
    have e : ([0, 0, 0, 0, 0] : List Int).getD i 0 = 0 := by
      have : i = 0 ∨ i = 1 ∨ i = 2 ∨ i = 3 ∨ i = 4 := by omega
      rcases this with rfl | rfl | rfl | rfl | rfl <;> rfl
    unfold costAt
    rw [e]
    split
    · rename_i hb
      have h1 := (fit_zero s c).2 i hi
      rw [e, if_pos hb] at h1
      unfold bitsF
      rw [if_pos h1]
      simp [pays_zero]
    · rfl
  have o : okTo s c [0, 0, 0, 0, 0] 5 = true := by
    have h := fit_zero s c
    simp only [okTo, (fit_ok h 0 (by omega)).1, (fit_ok h 1 (by omega)).1, (fit_ok h 2 (by omega)).1, (fit_ok h 3 (by omega)).1, (fit_ok h 4 (by omega)).1, Bool.and_true]
  unfold totalF
  rw [if_pos ⟨hR, o⟩]
  simp only [sumAt, b0 0 (by omega), b0 1 (by omega), b0 2 (by omega), b0 3 (by omega), b0 4 (by omega)]
  omega
theorem allocF_fits (s c t bud : Int) (hR : RightP s c) : FitL s c (allocF s c t bud) ∧ 0 ≤ totalF s c (allocF s c t bud) ∧ totalF s c (allocF s c t bud) ≤ max bud 0 ∧ Done s c t bud (allocF s c t bud) := by
  have hz := total_zero s c hR
  obtain ⟨h1, h2, h3⟩ := allocGo_fits t bud 161 [0, 0, 0, 0, 0] (fit_zero s c) (by simp [sum5])
  have h4 := fit_total hR h1
  unfold allocF
  refine ⟨h1, h4, ?_, h3⟩
  rcases h2 with h2 | h2 <;> omega
end Go.Proofs.YtbcdnbbpkikppaaDoor
namespace Go.Proofs.YtbcdnbbpkikppaaDoor
open Go.Vec Go.Cost
/-- A slope by the document. -/
def slopeR (t : Int) (b : Nat) : Int := 64 / widL.getD b 0 + (8 - min (max t 0) 7) * b
theorem width_in {s c : Int} {b : Nat} (h : (b : Int) < bandsF s c) : widthF s c b = widL.getD b 0 := by
  unfold widthF; rw [if_pos ⟨by omega, h⟩]; simp
theorem slopeR_eq (s c t : Int) (b : Nat) (h : (b : Int) < bandsF s c) : slopeF s c t b = slopeR t b := by
  have hb := bandsF_bd s c
  have h5 : ∀ i : Fin 5, ¬ widL.getD i.val 0 = 0 := by decide
  unfold slopeF slopeR
  rw [width_in h, if_neg (h5 ⟨b, by omega⟩)]
theorem slopeR_pos (t : Int) (b : Nat) (hb : b < 5) : 1 ≤ slopeR t b ∧ slopeR t b ≤ 64 := by
  unfold slopeR
  have : b = 0 ∨ b = 1 ∨ b = 2 ∨ b = 3 ∨ b = 4 := by omega
  rcases this with rfl | rfl | rfl | rfl | rfl <;> simp [widL] <;> omega
def lev (t : Int) (b : Nat) (l : List Int) : Int := (l.getD b 0 + 1) * slopeR t b
def more (c : Int) (b : Nat) (l : List Int) : Int := c * (bitsF (widL.getD b 0) (l.getD b 0 + 1) - bitsF (widL.getD b 0) (l.getD b 0))
def inc (b : Nat) (l : List Int) : List Int := l.set b (l.getD b 0 + 1)
/-- From a level and a band on. -/
def runI (t bud c : Int) (nb : Nat) : Nat → Int → Nat → List Int → Int → List Int
  | 0, _, _, l, _ => l
  | F + 1, lv, b, l, sum =>
    if b < nb then
      if l.getD b 0 < capF (widL.getD b 0) ∧ lev t b l = lv then
        if bud < sum + more c b l then l else runI t bud c nb F lv (b + 1) (inc b l) (sum + more c b l)
      else runI t bud c nb F lv (b + 1) l sum
    else if lv < 3000 then runI t bud c nb F (lv + 1) 0 l sum else l
/-- What the best of the first n bands is. -/
theorem bestTo_spec (s c t : Int) (l : List Int) : ∀ n : Nat, (n : Int) ≤ bandsF s c →
    ((bestTo s c t l n).1 < 0 → ∀ b, b < n → capF (widL.getD b 0) ≤ l.getD b 0) ∧
    (0 ≤ (bestTo s c t l n).1 → ∃ b, (bestTo s c t l n).1 = (b : Nat) ∧ b < n ∧ (bestTo s c t l n).2 = lev t b l ∧ l.getD b 0 < capF (widL.getD b 0) ∧ ∀ j, j < n → l.getD j 0 < capF (widL.getD j 0) → lev t b l < lev t j l ∨ (lev t j l = lev t b l ∧ b ≤ j))
  | 0, _ => ⟨fun _ b hb => absurd hb (by omega), fun h => by simp [bestTo] at h⟩
  | n + 1, hn => by
    obtain ⟨h1, h2⟩ := bestTo_spec s c t l n (by omega)
    have hw : widthF s c n = widL.getD n 0 := width_in (by omega)
    have hs : slopeF s c t n = slopeR t n := slopeR_eq s c t n (by omega)
    have hbd := bestTo_bd s c t l n
    simp only [bestTo, hw, hs]
    by_cases hc : capF (widL.getD n 0) ≤ l.getD n 0
    · rw [if_pos hc]
      refine ⟨fun h b hb => ?_, fun h => ?_⟩
      · by_cases e : b = n
        · subst e; exact hc
        · exact h1 h b (by omega)
      · obtain ⟨b, e1, e2, e3, e4, e5⟩ := h2 h
        refine ⟨b, e1, by omega, e3, e4, fun j hj hcj => ?_⟩
        by_cases e : j = n
        · subst e; omega
        · exact e5 j (by omega) hcj
    · rw [if_neg hc]
      by_cases hlt : (bestTo s c t l n).1 < 0 ∨ (l.getD n 0 + 1) * slopeR t n < (bestTo s c t l n).2
      · rw [if_pos hlt]
        refine ⟨fun h => by simp only at h; omega, fun _ => ⟨n, rfl, by omega, rfl, by omega, fun j hj hcj => ?_⟩⟩
        by_cases e : j = n
        · subst e; exact .inr ⟨rfl, Nat.le_refl _⟩
        · rcases hlt with hlt | hlt
          · have := h1 hlt j (by omega); omega
          · by_cases h0 : (bestTo s c t l n).1 < 0
            · have := h1 h0 j (by omega); omega
            · obtain ⟨b, e1, e2, e3, e4, e5⟩ := h2 (by omega)
              rw [e3] at hlt
              have := e5 j (by omega) hcj
              left
              show (l.getD n 0 + 1) * slopeR t n < _
              omega
      · rw [if_neg hlt]
        rw [not_or] at hlt
        refine ⟨fun h => absurd h hlt.1, fun h => ?_⟩
        obtain ⟨b, e1, e2, e3, e4, e5⟩ := h2 h
        refine ⟨b, e1, by omega, e3, e4, fun j hj hcj => ?_⟩
        by_cases e : j = n
        · subst e
          have := hlt.2
          rw [e3] at this
          have e6 : lev t j l = (l.getD j 0 + 1) * slopeR t j := rfl
          by_cases e7 : lev t j l = lev t b l
          · exact .inr ⟨e7, by omega⟩
          · left; omega
        · exact e5 j (by omega) hcj
/-- What lies ahead: nothing that may still come is behind this place. -/
def Ahead (t : Int) (nb : Nat) (lv : Int) (b : Nat) (l : List Int) : Prop := ∀ j, j < nb → l.getD j 0 < capF (widL.getD j 0) → lv < lev t j l ∨ (lev t j l = lv ∧ b ≤ j)
theorem bitsF_eq {n k : Int} (h0 : 0 ≤ k) (h : k ≤ capF n) : bitsF n k = (pays n.toNat k.toNat : Nat) := by
  unfold bitsF; rw [if_pos ⟨h0, h⟩]
theorem fit_oks {s c : Int} {l : List Int} (h : FitL s c l) : okTo s c l 5 = true := by
  simp only [okTo, (fit_ok h 0 (by omega)).1, (fit_ok h 1 (by omega)).1, (fit_ok h 2 (by omega)).1, (fit_ok h 3 (by omega)).1, (fit_ok h 4 (by omega)).1, Bool.and_true]
/-- One pulse more. -/
theorem fit_inc {s c : Int} {l : List Int} (h : FitL s c l) (b : Nat) (hb : (b : Int) < bandsF s c) (hc : l.getD b 0 < capF (widL.getD b 0)) : FitL s c (inc b l) ∧ sum5 (inc b l) = sum5 l + 1 := by
  have hbd := bandsF_bd s c
  have hB5 : b < 5 := by omega
  unfold inc
  refine ⟨⟨by simpa using h.1, fun i hi => ?_⟩, ?_⟩
  · rw [set5 h.1 b hB5 _ i hi]
    obtain ⟨h0, h1⟩ := h.2 i hi
    by_cases e : i = b
    · subst e
      rw [if_pos rfl, if_pos hb, width_in hb]
      exact ⟨by omega, by omega⟩
    · rw [if_neg e]
      exact ⟨h0, h1⟩
  · unfold sum5
    rw [set5 h.1 b hB5 _ 0 (by omega), set5 h.1 b hB5 _ 1 (by omega), set5 h.1 b hB5 _ 2 (by omega), set5 h.1 b hB5 _ 3 (by omega), set5 h.1 b hB5 _ 4 (by omega)]
    have : b = 0 ∨ b = 1 ∨ b = 2 ∨ b = 3 ∨ b = 4 := by omega
    rcases this with rfl | rfl | rfl | rfl | rfl <;> simp <;> omega
theorem total_inc {s c : Int} (hR : RightP s c) {l : List Int} (h : FitL s c l) (b : Nat) (hb : (b : Int) < bandsF s c) (hc : l.getD b 0 < capF (widL.getD b 0)) : totalF s c (inc b l) = totalF s c l + more c b l := by
  obtain ⟨h', _⟩ := fit_inc h b hb hc
  have hbd := bandsF_bd s c
  have hB5 : b < 5 := by omega
  unfold totalF
  rw [if_pos ⟨hR, fit_oks h'⟩, if_pos ⟨hR, fit_oks h⟩]
  have key : ∀ i : Nat, i < 5 → costAt s c (inc b l) i = costAt s c l i + if i = b then bitsF (widL.getD b 0) (l.getD b 0 + 1) - bitsF (widL.getD b 0) (l.getD b 0) else 0 := fun i hi => by
    unfold costAt inc
    rw [set5 h.1 b hB5 _ i hi]
    by_cases e : i = b
    · subst e
      rw [if_pos rfl, if_pos rfl, if_pos hb, if_pos hb, width_in hb]
      omega
    · rw [if_neg e, if_neg e]
      omega
  have hsum : sumAt s c (inc b l) 5 = sumAt s c l 5 + (bitsF (widL.getD b 0) (l.getD b 0 + 1) - bitsF (widL.getD b 0) (l.getD b 0)) := by
    simp only [sumAt, key 0 (by omega), key 1 (by omega), key 2 (by omega), key 3 (by omega), key 4 (by omega)]
    generalize bitsF (widL.getD b 0) (l.getD b 0 + 1) - bitsF (widL.getD b 0) (l.getD b 0) = D
    have : b = 0 ∨ b = 1 ∨ b = 2 ∨ b = 3 ∨ b = 4 := by omega
    rcases this with rfl | rfl | rfl | rfl | rfl <;> simp <;> omega
  rw [hsum, Int.add_mul]
  unfold more
  rw [Int.mul_comm c]
theorem run_eq {s c : Int} (hR : RightP s c) (t bud : Int) (nb : Nat) (hnb : bandsF s c = nb) : ∀ (F f : Nat) (lv : Int) (b : Nat) (l : List Int), 1 ≤ lv → lv ≤ 3000 → b ≤ nb → ((3000 - lv).toNat) * (nb + 1) + (nb - b) < F → FitL s c l → Ahead t nb lv b l → 160 - sum5 l < f →
    runI t bud c nb F lv b l (totalF s c l) = allocGo s c t bud f l
  | 0, _, _, _, _, _, _, _, hF, _, _, _ => absurd hF (by omega)
  | F + 1, f, lv, b, l, hl1, hl2, hbn, hF, hfit, hah, hf => by
    have hbd := bandsF_bd s c
    simp only [runI]
    by_cases hb : b < nb
    · rw [if_pos hb]
      by_cases hfire : l.getD b 0 < capF (widL.getD b 0) ∧ lev t b l = lv
      · rw [if_pos hfire]
        obtain ⟨hc, hlev⟩ := hfire
        have hbb : (b : Int) < bandsF s c := by omega
        -- the best band is this one
        have hbest : bestF s c t l = b := by
          obtain ⟨h1, h2⟩ := bestTo_spec s c t l nb (by omega)
          unfold bestF
          rw [hnb, Int.toNat_natCast]
          by_cases h0 : (bestTo s c t l nb).1 < 0
          · have := h1 h0 b hb; omega
          · obtain ⟨j, e1, e2, e3, e4, e5⟩ := h2 (by omega)
            rw [e1]
            have a1 := e5 b hb hc
            have a2 := hah j e2 e4
            have : j = b := by omega
            rw [this]
        have hsum := fit_sum hfit
        obtain ⟨f', rfl⟩ : ∃ f', f = f' + 1 := ⟨f - 1, by omega⟩
        simp only [allocGo]
        rw [hbest, if_neg (show ¬ ((b : Nat) : Int) < 0 by omega), Int.toNat_natCast]
        show _ = if bud < totalF s c (inc b l) then l else allocGo s c t bud f' (inc b l)
        rw [total_inc hR hfit b hbb hc]
        by_cases hbud : bud < totalF s c l + more c b l
        · rw [if_pos hbud, if_pos hbud]
        · rw [if_neg hbud, if_neg hbud]
          obtain ⟨hfit', hs'⟩ := fit_inc hfit b hbb hc
          rw [← total_inc hR hfit b hbb hc]
          refine run_eq hR t bud nb hnb F f' lv (b + 1) (inc b l) hl1 hl2 (by omega) (by omega) hfit' ?_ (by omega)
          intro j hj hcj
          have hB5 : b < 5 := by omega
          have hj5 : j < 5 := by omega
          have e0 : (inc b l).getD j 0 = if j = b then l.getD b 0 + 1 else l.getD j 0 := set5 hfit.1 b hB5 _ j hj5
          by_cases e : j = b
          · subst e
            rw [if_pos rfl] at e0
            left
            have hp := slopeR_pos t j hj5
            have e1 : lev t j (inc j l) = lev t j l + slopeR t j := by
              unfold lev
              rw [e0, show l.getD j 0 + 1 + 1 = (l.getD j 0 + 1) + 1 by omega, Int.add_mul (l.getD j 0 + 1) 1, Int.one_mul]
            omega
          · rw [if_neg e] at e0
            rw [e0] at hcj
            have e1 : lev t j (inc b l) = lev t j l := by unfold lev; rw [e0]
            rw [e1]
            rcases hah j hj hcj with h | ⟨h, h'⟩
            · exact .inl h
            · exact .inr ⟨h, by omega⟩
      · rw [if_neg hfire]
        refine run_eq hR t bud nb hnb F f lv (b + 1) l hl1 hl2 (by omega) (by omega) hfit ?_ hf
        intro j hj hcj
        rcases hah j hj hcj with h | ⟨h, h'⟩
        · exact .inl h
        · by_cases e : j = b
          · subst e; exact absurd ⟨hcj, h⟩ hfire
          · exact .inr ⟨h, by omega⟩
    · rw [if_neg hb]
      by_cases hlv : lv < 3000
      · rw [if_pos hlv]
        refine run_eq hR t bud nb hnb F f (lv + 1) 0 l (by omega) (by omega) (by omega) ?_ hfit ?_ hf
        · obtain ⟨d, hd⟩ : ∃ d : Nat, (3000 - lv).toNat = d + 1 := ⟨(3000 - lv).toNat - 1, by omega⟩
          have hd' : (3000 - (lv + 1)).toNat = d := by omega
          rw [hd, Nat.add_mul] at hF
          rw [hd']
          omega
        · intro j hj hcj
          rcases hah j hj hcj with h | ⟨h, h'⟩
          · by_cases e : lev t j l = lv + 1
            · exact .inr ⟨e, by omega⟩
            · exact .inl (by omega)
          · omega
      · rw [if_neg hlv]
        have hnone : bestF s c t l < 0 := by
          obtain ⟨h1, h2⟩ := bestTo_spec s c t l nb (by omega)
          unfold bestF
          rw [hnb, Int.toNat_natCast]
          refine Int.not_le.1 fun h0 => ?_
          obtain ⟨j, e1, e2, e3, e4, e5⟩ := h2 h0
          have hj5 : j < 5 := by omega
          have hp := slopeR_pos t j hj5
          have hcb := capF_bd (widL.getD j 0)
          have hk := (hfit.2 j hj5).1
          have hle : lev t j l ≤ 33 * 64 := by
            unfold lev
            exact Int.le_trans (Int.mul_le_mul_of_nonneg_right (show l.getD j 0 + 1 ≤ 33 by omega) (by omega)) (Int.mul_le_mul_of_nonneg_left hp.2 (by omega))
          rcases hah j e2 e4 with h | ⟨h, h'⟩ <;> omega
        have hsum := fit_sum hfit
        obtain ⟨f', rfl⟩ : ∃ f', f = f' + 1 := ⟨f - 1, by omega⟩
        simp only [allocGo]
        rw [if_pos hnone]
end Go.Proofs.YtbcdnbbpkikppaaDoor
end

section
namespace Go.Proofs.YtbcdnbbpkikppaaDoor
open Go.RowKit Go.BigFrame Go.Vec Go.Cost
set_option linter.unusedSimpArgs false
set_option linter.unusedVariables false
/-- Of the next level's pulses those that fit, band by band. -/
def finF (s c bud : Int) (nb : Nat) (next : Nat → Int) : Nat → Nat → (Nat → Int) → (Nat → Int)
  | 0, _, k => k
  | f + 1, b, k => if ¬ next b = k b ∧ bud < sumK s c (updI k b (next b)) nb * c then k else finF s c bud nb next f (b + 1) (updI k b (next b))
/-- All pulses up to a level fit. -/
def Fits (s c bud : Int) (sl : Nat → Int) (nb : Nat) (lv : Int) : Prop := sumK s c (atTo s c sl lv nb) nb * c ≤ bud
/-- What the search comes to. -/
structure Found (s c bud : Int) (sl : Nat → Int) (nb : Nat) (lo hi : Int) : Prop where
  lo0 : 0 ≤ lo
  lt : lo < hi
  hi0 : hi ≤ topTo s c sl nb + 1
  low : lo = 0 ∨ Fits s c bud sl nb lo
  high : hi = topTo s c sl nb + 1 ∨ ¬ Fits s c bud sl nb hi
def slTo (s c t : Int) (n : Nat) : Nat → Int := fun b => if b < n then slopeF s c t b else 0
theorem slTo_in (s c t : Int) (nb : Nat) (hnb : bandsF s c = nb) (b : Nat) (hb : b < nb) : 1 ≤ slTo s c t nb b ∧ slTo s c t nb b ≤ 64 := by
  have h5 := bandsF_bd s c
  unfold slTo
  rw [if_pos hb, slopeR_eq s c t b (by omega)]
  exact slopeR_pos t b (by omega)
theorem cellsEq_i64 (f g : Nat → Int) : ∀ l : List Nat, cellsEq (l.map fun i => Value.int .i64 (f i)) (l.map fun i => Value.int .i64 (g i)) = l.all fun i => f i == g i
  | [] => rfl
  | i :: l => by
    simp only [List.map_cons, cellsEq, cellEq, List.all_cons, cellsEq_i64 f g l]
theorem layout5 : layout Tryd.prog 4 A5 = some ((List.range 5).map fun i => Leaf.int (i64s i)) := by kernel_rfl
theorem eq5 (f g : Nat → Int) (w : World) : (Op.equalIn 10000 A5 (.agg (ag i64s 5 f)) (.agg (ag i64s 5 g))).run Tryd.prog w = .ok ((List.range 5).all fun i => f i == g i) w := by
  have h := eq_flat (P := Tryd.prog) A5 4 _ layout5 (by decide) (by kernel_rfl) ((List.range 5).map fun i => Value.int .i64 (f i)) ((List.range 5).map fun i => Value.int .i64 (g i)) (fitAll_ag i64s f _) (fitAll_ag i64s g _) w
  rw [cellsEq_i64] at h
  exact h
theorem eq5_yes (f g : Nat → Int) (h : ∀ j, j < 5 → f j = g j) (w : World) : (Op.equalIn 10000 A5 (.agg (ag i64s 5 f)) (.agg (ag i64s 5 g))).run Tryd.prog w = .ok true w := by
  rw [eq5, show ((List.range 5).all fun i => f i == g i) = true from by
    rw [List.all_eq_true]
    intro j hj
    simpa using h j (by simpa using hj)]
theorem eq5_no (f g : Nat → Int) (j : Nat) (hj : j < 5) (h : ¬ f j = g j) (w : World) : (Op.equalIn 10000 A5 (.agg (ag i64s 5 f)) (.agg (ag i64s 5 g))).run Tryd.prog w = .ok false w := by
  rw [eq5, show ((List.range 5).all fun i => f i == g i) = false from by
    rw [List.all_eq_false]
    exact ⟨j, by simpa using hj, by simpa using h⟩]
theorem JobAt.setSlope {jb hb sh s c sl} {w : World} (h : JobAt jb hb sh s c sl w) (b : Nat) (hb5 : b < 5) (x : Int) (h1 : hb < jb) (h2 : sh < jb) (h3 : 0 < jb) : JobAt jb hb sh s c (updI sl b x) (w.setCell ⟨jb, 3 + b, none⟩ (.int .i64 x)) := by
  have ho := only_setCell w ⟨jb, 3 + b, none⟩ (.int .i64 x)
  have hB : Below jb w (w.setCell ⟨jb, 3 + b, none⟩ (.int .i64 x)) := ho.below (Below.refl jb w) (Nat.le_refl _)
  refine ⟨?_, (ho.block _ (by show hb ≠ jb; omega)).trans h.sha, h.sheet.below h2 hB, ⟨by rw [ho.size]; exact h.wid.1, fun j hj => (World.cell?_of_block (w := w) (ho.block 0 (by show _ ≠ jb; omega))).trans (h.wid.2 j hj)⟩⟩
  rw [setCell_own w jb (3 + b) _ _ _ _ h.job]
  rcases (show b = 0 ∨ b = 1 ∨ b = 2 ∨ b = 3 ∨ b = 4 by omega) with h | h | h | h | h <;> subst h <;> rfl
theorem JobAt.ext {jb hb sh s c sl} {sl' : Nat → Int} {w : World} (h : JobAt jb hb sh s c sl w) (he : ∀ b, b < 5 → sl b = sl' b) : JobAt jb hb sh s c sl' w := by
  obtain ⟨h1, h2, h3, h4⟩ := h
  rw [he 0 (by omega), he 1 (by omega), he 2 (by omega), he 3 (by omega), he 4 (by omega)] at h1
  exact ⟨h1, h2, h3, h4⟩
/-- The call's frame: the mode, the result, the job. -/
structure JS (w : World) (B hb sh : Nat) (s c : Int) (sl : Nat → Int) (W : World) : Prop where
  below : Below B w W
  mo : W.heap[B]? = some (.cells #[.int .i64 s, .int .i64 c] 53 (0, 0))
  rb : Bx (B + 1) A5 i64s 5 (fun _ => 0) W
  job : JobAt (B + 1 + 1) hb sh s c sl W
  hl : hb < B ∧ sh < B ∧ 0 < B
theorem JS.keep {w B hb sh s c sl} {W W' : World} (h : JS w B hb sh s c sl W) (hb' : Below W.heap.size W W') : JS w B hb sh s c sl W' :=
  ⟨h.below.trans (hb'.mono (by have := (block_facts h.mo).2.2; omega)), (hb'.block _ (block_facts h.mo).2.2).trans h.mo, h.rb.keep hb', h.job.keep hb', h.hl⟩
theorem JS.m0 {w B hb sh s c sl} {W : World} (h : JS w B hb sh s c sl W) : W.cell? ⟨B, 0, none⟩ = some (.int .i64 s) := (block_facts h.mo).1 0
theorem JS.m1 {w B hb sh s c sl} {W : World} (h : JS w B hb sh s c sl W) : W.cell? ⟨B, 1, none⟩ = some (.int .i64 c) := (block_facts h.mo).1 1
/-- .. and the pulses, and the next level's. -/
structure JK (w : World) (B hb sh kb xb : Nat) (s c : Int) (sl k nx : Nat → Int) (W : World) : Prop where
  js : JS w B hb sh s c sl W
  o1 : B + 1 + 1 < kb
  o2 : kb < xb
  kk : Bx kb A5 i64s 5 k W
  xx : Bx xb A5 i64s 5 nx W
theorem JK.keep {w B hb sh kb xb s c sl k nx} {W W' : World} (h : JK w B hb sh kb xb s c sl k nx W) (hb' : Below W.heap.size W W') : JK w B hb sh kb xb s c sl k nx W' :=
  ⟨h.js.keep hb', h.o1, h.o2, h.kk.keep hb', h.xx.keep hb'⟩
theorem JS.other {w B hb sh s c sl} {q : Nat} {W W' : World} (h : JS w B hb sh s c sl W) (ho : Only q W W') (hq : B + 1 + 1 < q) : JS w B hb sh s c sl W' := by
  have h1 := h.hl
  exact ⟨ho.below h.below (by omega), (ho.block _ (by omega)).trans h.mo, (ho.block _ (by omega)).trans h.rb, h.job.only ho (by omega) (by omega) (by omega) (by omega), h1⟩
theorem JK.onlyK {w B hb sh kb xb s c sl k nx} {k' : Nat → Int} {W W' : World} (h : JK w B hb sh kb xb s c sl k nx W) (ho : Only kb W W') (hf : Bx kb A5 i64s 5 k' W') : JK w B hb sh kb xb s c sl k' nx W' := by
  have h1 := h.o1
  have h2 := h.o2
  exact ⟨h.js.other ho h1, h1, h2, hf, (ho.block _ (by omega)).trans h.xx⟩
theorem jk_new {w B hb sh s c sl} {wq : World} (h : JS w B hb sh s c sl wq) (k0 k1 : Nat → Int) :
    JK w B hb sh wq.heap.size (wq.heap.size + 1) s c sl k0 k1 ((((wq.alloc (.cells #[.int .i64 0, .int .i64 0, .int .i64 0, .int .i64 0, .int .i64 0] A5 (0, 0))).alloc (.cells #[.int .i64 0, .int .i64 0, .int .i64 0, .int .i64 0, .int .i64 0] A5 (0, 0))).setCells wq.heap.size 0 (ag i64s 5 k0).toList).setCells (wq.heap.size + 1) 0 (ag i64s 5 k1).toList) := by
  obtain ⟨W1, hW1⟩ : ∃ W1, ((wq.alloc (.cells #[.int .i64 0, .int .i64 0, .int .i64 0, .int .i64 0, .int .i64 0] A5 (0, 0))).alloc (.cells #[.int .i64 0, .int .i64 0, .int .i64 0, .int .i64 0, .int .i64 0] A5 (0, 0))) = W1 := ⟨_, rfl⟩
  have hb0 : Below wq.heap.size wq W1 := by subst hW1; (repeat' (first | with_reducible (first | exact Below.refl _ _ | assumption | refine Below.alloc ?_ ?_ _ | refine below_grew ?_ ?_ _ | refine Below.setCell ?_ ?_ _ | refine Below.drew ?_ | refine below_drewN ?_ _) | omega | (simp; done) | (simp; omega)))
  have A1 : W1.heap[wq.heap.size]? = some (.cells #[.int .i64 0, .int .i64 0, .int .i64 0, .int .i64 0, .int .i64 0] A5 (0, 0)) := by subst hW1; exact alloc_two _ _ _
  have A2 : W1.heap[wq.heap.size + 1]? = some (.cells #[.int .i64 0, .int .i64 0, .int .i64 0, .int .i64 0, .int .i64 0] A5 (0, 0)) := by subst hW1; exact alloc_secondOf _ _ _
  rw [hW1]
  have o1 := only_setCells W1 wq.heap.size 0 (ag i64s 5 k0).toList
  have c1 := cells_all A1 (N := 5) rfl (cs := ag i64s 5 k0) (ag_size _ _ _)
  have A2' := (o1.block (wq.heap.size + 1) (by omega)).trans A2
  have o2 := only_setCells (W1.setCells wq.heap.size 0 (ag i64s 5 k0).toList) (wq.heap.size + 1) 0 (ag i64s 5 k1).toList
  have c2 := cells_all A2' (N := 5) rfl (cs := ag i64s 5 k1) (ag_size _ _ _)
  have hbb := o2.below (o1.below hb0 (Nat.le_refl _)) (by omega)
  exact ⟨h.keep hbb, h.job.lt.1, by omega, (o2.block _ (by omega)).trans c1, c2⟩
theorem k5_new (W : World) (F : Nat → Int) : Below W.heap.size W ((W.alloc (.cells #[.int .i64 0, .int .i64 0, .int .i64 0, .int .i64 0, .int .i64 0] A5 (0, 0))).setCells W.heap.size 0 (ag i64s 5 F).toList) ∧ Bx W.heap.size A5 i64s 5 F ((W.alloc (.cells #[.int .i64 0, .int .i64 0, .int .i64 0, .int .i64 0, .int .i64 0] A5 (0, 0))).setCells W.heap.size 0 (ag i64s 5 F).toList) :=
  ⟨(only_setCells _ _ _ _).below (by (repeat' (first | with_reducible (first | exact Below.refl _ _ | assumption | refine Below.alloc ?_ ?_ _ | refine below_grew ?_ ?_ _ | refine Below.setCell ?_ ?_ _ | refine Below.drew ?_ | refine below_drewN ?_ _) | omega | (simp; done) | (simp; omega)))) (Nat.le_refl _), cells_all (alloc_at W _) (N := 5) rfl (ag_size _ _ _)⟩
theorem JK.size {w B hb sh kb xb s c sl k nx} {W : World} (h : JK w B hb sh kb xb s c sl k nx W) : xb < W.heap.size := (block_facts h.xx).2.2
theorem JK.other {w B hb sh kb xb s c sl k nx} {q : Nat} {W W' : World} (h : JK w B hb sh kb xb s c sl k nx W) (ho : Only q W W') (hq : xb < q) : JK w B hb sh kb xb s c sl k nx W' := by
  have h1 := h.o1
  have h2 := h.o2
  exact ⟨h.js.other ho (by omega), h1, h2, (ho.block _ (by omega)).trans h.kk, (ho.block _ (by omega)).trans h.xx⟩
/-- A share: its sheet. -/
structure ShareAt (hb sh : Nat) (w : World) : Prop where
  sha : w.heap[hb]? = some (.cells #[.pointer (some ⟨sh, 0, none⟩)] 164 (0, 0))
  sheet : SheetOK sh w
set_option maxHeartbeats 4000000 in
set_option maxRecDepth 100000 in
theorem shAlloc (hb sh : Nat) (s c t bud : Int) (nb : Nat) (hnb : bandsF s c = nb) (w : World) (h : ShareAt hb sh w) (hW : WidthW w) :
    Calls Tryd.prog 171 #[.pointer (some ⟨hb, 0, none⟩), .agg #[.int .i64 s, .int .i64 c], .int .i64 t, .int .i64 bud] w fun e w' => ∃ lo, Found s c bud (slTo s c t nb) nb lo (lo + 1) ∧
      e = .returned (.agg (ag i64s 5 (finF s c bud nb (atTo s c (slTo s c t nb) (lo + 1) nb) nb 0 (atTo s c (slTo s c t nb) lo nb)))) ∧ Below w.heap.size w w' := by
  have HS := Lib.hid h
  have HW := Lib.hid hW
  have hbn := Lib.hid (fun w => modeBands s c w)
  rw [hnb] at hbn
  have hnb5 : nb ≤ 5 := by have := bandsF_bd s c; omega
  have hslo := Lib.hid (fun (b : Int) w hT => slope_any s c t b w hT)
  have hsl := slTo_in s c t nb hnb
  have hat := Lib.hid (fun jb lv hlv w h => shAt jb hb sh s c (slTo s c t nb) nb hnb hsl lv hlv w h)
  have htt := Lib.hid (fun jb k w h => shTotal jb hb sh s c (slTo s c t nb) k nb hnb w h)
  have htp := Lib.hid (fun jb w h => shTop jb hb sh s c (slTo s c t nb) nb hnb hsl w h)
  have htb := topTo_bd s c (slTo s c t nb) nb hnb hsl nb (Nat.le_refl _)
  have HTB := Lib.hid htb
  clear hsl htb hnb
  have hlt : hb < w.heap.size := (block_facts h.sha).2.2
  have hlt2 := sheet_lt h.sheet
  have hlt3 := hW.1
  clear h hW
  go_enter Tryd.func171, Tryd.ntmps171
  go_upto_region 2 with fail
  refine cut_world (fun W => JS w w.heap.size hb sh s c (slTo s c t 0) W) ⟨by (repeat' (first | with_reducible (first | exact Below.refl _ _ | assumption | refine Below.alloc ?_ ?_ _ | refine below_grew ?_ ?_ _ | refine Below.setCell ?_ ?_ _ | refine Below.drew ?_ | refine below_drewN ?_ _) | omega | (simp; done) | (simp; omega))), ?_, ?_, ?_, ⟨hlt, hlt2, hlt3⟩⟩ ?_
  · exact alloc_three _ _ _ _
  · exact alloc_second _ _ _ _
  · have hbb : Below w.heap.size w (((w.alloc (.cells #[.int .i64 s, .int .i64 c] 53 (0, 0))).alloc (.cells #[.int .i64 0, .int .i64 0, .int .i64 0, .int .i64 0, .int .i64 0] A5 (0, 0))).alloc (.cells #[.pointer (some ⟨hb, 0, none⟩), .int .i64 s, .int .i64 c, .int .i64 0, .int .i64 0, .int .i64 0, .int .i64 0, .int .i64 0] 234 (0, 0))) := by (repeat' (first | with_reducible (first | exact Below.refl _ _ | assumption | refine Below.alloc ?_ ?_ _ | refine below_grew ?_ ?_ _ | refine Below.setCell ?_ ?_ _ | refine Below.drew ?_ | refine below_drewN ?_ _) | omega | (simp; done) | (simp; omega)))
    exact ⟨alloc_third _ _ _ _, (hbb.block _ hlt).trans HS.out.sha, HS.out.sheet.below hlt2 hbb, HW.out.below' hbb⟩
  intro V hV
  generalize hBd : w.heap.size = B at *
  have HBd := Lib.hid hBd
  have HV := Lib.hid hV
  have hm0 := hV.m0
  have hm1 := hV.m1
  clear hBd hV hlt hlt2 hlt3 HS HW
  go_wp2_with (go_at_call 28; refine (hbn.out _).mono ?_; rintro e wn ⟨rfl, hbb⟩; have HV2 := Lib.hid (HV.out.keep hbb); clear hbb)
  clear hm0 hm1 HV
  go_loopw [10, 24] (fun v10 cnt wr => ∃ b : Nat, b ≤ nb ∧ cnt = .int .i64 b ∧ JS w B hb sh s c (slTo s c t b) wr) (fun _ cnt _ => nb - (intOf cnt).toNat)
  case atStart => exact ⟨0, by omega, rfl, HV2.out⟩
  case round =>
    clear HV2
    obtain ⟨b, hbl, rfl, hL⟩ := hrel
    have HL := Lib.hid hL
    have hb0 : (0 : Int) ≤ b := by omega
    have hm0 := hL.m0
    have hm1 := hL.m1
    have hmm := (block_facts hL.mo).2.2
    have hjj := hL.job.lt.1
    clear hL
    by_cases hlt : b < nb
    · have hlt' : (b : Int) < nb := by omega
      have hb5 : (b : Int) < 5 := by omega
      go_upto_region 5 with fail
      clear hlt'
      first | refine wp_region_grew2 9 (by kernel_rfl) (by kernel_rfl) ?_ | refine wp_region_grew 9 (by kernel_rfl) (by kernel_rfl) ?_
      simp only [List.take_succ_cons, List.take_zero, List.drop_succ_cons, List.drop_zero]
      repeat (go_big_quiet_step ((go_at_call 164; exact Calls.grew_of (hslo.out _ _ (HL.out.keep (by (repeat' (first | with_reducible (first | exact Below.refl _ _ | assumption | refine Below.alloc ?_ ?_ _ | refine below_grew ?_ ?_ _ | refine Below.setCell ?_ ?_ _ | refine Below.drew ?_ | refine below_drewN ?_ _) | omega | (simp; done) | (simp; omega))))).job.wid))))
      refine wpQuiet_nil ?_
      rintro _ ⟨x, rfl⟩
      have hl2 := HL.out.keep (W' := wr.grew x) (by (repeat' (first | with_reducible (first | exact Below.refl _ _ | assumption | refine Below.alloc ?_ ?_ _ | refine below_grew ?_ ?_ _ | refine Below.setCell ?_ ?_ _ | refine Below.drew ?_ | refine below_drewN ?_ _) | omega | (simp; done) | (simp; omega))))
      have kc2 := hl2.job.cs b (by omega)
      have kf2 := (block_facts hl2.job.job).2.1 (3 + b)
      have HL2 := Lib.hid hl2
      clear hl2 hm0 hm1 hmm hjj
      go_upto_region 6 with fail
      clear kc2 kf2
      have hjs := HL2.out.job.setSlope b (by omega) (slopeF s c t b) (by have := HL2.out.hl; omega) (by have := HL2.out.hl; omega) (by have := HL2.out.hl; omega)
      have ho := only_setCell (wr.grew x) ⟨B + 1 + 1, 3 + b, none⟩ (.int .i64 (slopeF s c t b))
      refine cut_world (fun W => JS w B hb sh s c (slTo s c t (b + 1)) W) ⟨ho.below HL2.out.below (by show B ≤ B + 1 + 1; omega), (ho.block _ (by show B ≠ B + 1 + 1; omega)).trans HL2.out.mo, (ho.block _ (by show B + 1 ≠ B + 1 + 1; omega)).trans HL2.out.rb, hjs.ext fun j hj => ?_, HL2.out.hl⟩ ?_
      · unfold updI slTo
        by_cases e : j = b
        · rw [if_pos e, if_pos (by omega), e]
        · rw [if_neg e]
          by_cases e2 : j < b
          · rw [if_pos e2, if_pos (by omega)]
          · rw [if_neg e2, if_neg (by omega)]
      clear HL2 HL hjs ho
      intro V5 hV5
      have HV5 := Lib.hid hV5
      clear hV5
      go_wp2_with fail
      go_roundw
      case rel => exact ⟨b + 1, by omega, rfl, HV5.out⟩
      case measure => simp [intOf]; omega
    · have hlt' : ¬ (b : Int) < nb := by omega
      obtain rfl : b = nb := by omega
      clear hlt hmm hjj hm0 hm1
      go_upto_region 7 with fail
      clear hlt'
      go_wp2_with (go_at_call 173; refine (htp.out _ _ HL.out.job).mono ?_; rintro e wn ⟨rfl, hbb⟩; have HV3 := Lib.hid (HL.out.keep hbb); clear hbb)
      have htb := HTB.out
      obtain ⟨T, hT⟩ : ∃ T, topTo s c (slTo s c t b) b = T := ⟨_, rfl⟩
      have HTE := Lib.hid hT
      rw [hT] at htb ⊢
      have hT1 : wrap64 (T + 1) = T + 1 := by unfold wrap64; omega
      rw [hT1]
      clear hT hT1
      obtain ⟨sl, hsl⟩ : ∃ sl, slTo s c t b = sl := ⟨_, rfl⟩
      rw [hsl] at hat htt HV3
      have HSL := Lib.hid hsl
      clear hsl HL
      go_loopw [11, 12, 13] (fun v11 v12 v13 wr => ∃ lo hi : Int, v11 = .int .i64 lo ∧ v12 = .int .i64 hi ∧ Found s c bud sl b lo hi ∧ JS w B hb sh s c sl wr) (fun v11 v12 _ _ => (intOf v12 - intOf v11).toNat)
      case atStart => exact ⟨0, T + 1, rfl, rfl, ⟨Int.le_refl 0, by omega, by rw [← HSL.out, HTE.out]; exact Int.le_refl _, .inl rfl, .inl (by rw [← HSL.out, HTE.out])⟩, HV3.out⟩
      case round =>
        clear HV3
        obtain ⟨lo, hi, rfl, rfl, hFo, hL⟩ := hrel
        have HFO := Lib.hid hFo
        have HL := Lib.hid hL
        have b1 := hFo.lo0
        have b2 := hFo.lt
        have b3 := hFo.hi0
        rw [← HSL.out, HTE.out] at b3
        have hsub : wrap64 (hi - lo) = hi - lo := by unfold wrap64; omega
        have HIN := Lib.hid (And.intro b1 (And.intro b2 b3))
        clear hFo hL
        by_cases hgo : 1 < hi - lo
        · have hadd : wrap64 (lo + hi) = lo + hi := by unfold wrap64; omega
          have h0 : 0 ≤ lo + hi := by omega
          clear b1 b2 b3
          go_upto_region 10 with fail
          obtain ⟨md, hmd⟩ : ∃ md, (lo + hi).tdiv 2 = md := ⟨_, rfl⟩
          have hm2 : md = (lo + hi) / 2 := by rw [← hmd]; exact Int.tdiv_eq_ediv_of_nonneg h0
          have hin := HIN.out
          have hwm : wrap64 md = md := by unfold wrap64; omega
          rw [hmd, hwm]
          have HMB := Lib.hid (show lo < md ∧ md < hi by omega)
          have HMD := Lib.hid (show 0 ≤ md ∧ md ≤ 100000 by omega)
          clear hmd hm2 hin hwm hsub hadd h0 hgo
          by_cases hP : sumK s c (atTo s c sl md b) b * c ≤ bud
          · go_upto_region 11 with (first | (go_at_call 175; refine (hat.out _ md HMD.out _ HL.out.job).mono ?_; rintro e wn ⟨rfl, hbb⟩; have HL1 := Lib.hid (HL.out.keep hbb); clear hbb) | (go_at_call 174; refine (htt.out _ _ _ HL1.out.job).mono ?_; rintro e wq ⟨rfl, hbb⟩; have HL2 := Lib.hid (HL1.out.keep hbb); clear hbb))
            have HF := Lib.hid (show Found s c bud sl b md hi from ⟨by have := HMD.out; omega, HMB.out.2, HFO.out.hi0, .inr hP, HFO.out.high⟩)
            clear hP HFO HL HL1
            go_wp2_with fail
            go_roundw
            case rel => exact ⟨md, hi, rfl, rfl, HF.out, HL2.out⟩
            case measure => have := HMB.out; have := HIN.out; simp [intOf]; omega
          · go_upto_region 12 with (first | (go_at_call 175; refine (hat.out _ md HMD.out _ HL.out.job).mono ?_; rintro e wn ⟨rfl, hbb⟩; have HL1 := Lib.hid (HL.out.keep hbb); clear hbb) | (go_at_call 174; refine (htt.out _ _ _ HL1.out.job).mono ?_; rintro e wq ⟨rfl, hbb⟩; have HL2 := Lib.hid (HL1.out.keep hbb); clear hbb))
            have HF := Lib.hid (show Found s c bud sl b lo md from ⟨HFO.out.lo0, HMB.out.1, by have := HFO.out.hi0; have := HMB.out; omega, HFO.out.low, .inr (by unfold Fits; omega)⟩)
            clear hP HFO HL HL1
            go_wp2_with fail
            go_roundw
            case rel => exact ⟨lo, md, rfl, rfl, HF.out, HL2.out⟩
            case measure => have := HMB.out; have := HIN.out; simp [intOf]; omega
        · have hgo' : ¬ (1 < hi - lo) := hgo
          obtain rfl : hi = lo + 1 := by omega
          have HMD := Lib.hid (show 0 ≤ lo ∧ lo ≤ 100000 by omega)
          have HMD1 := Lib.hid (show 0 ≤ lo + 1 ∧ lo + 1 ≤ 100000 by omega)
          have hlo1 : wrap64 (lo + 1) = lo + 1 := by unfold wrap64; omega
          have hone : lo + 1 - lo = 1 := by omega
          rw [hone] at hsub
          clear b1 b2 b3 hgo hgo'
          obtain ⟨k0, hk0⟩ : ∃ k, atTo s c sl lo b = k := ⟨_, rfl⟩
          obtain ⟨k1, hk1⟩ : ∃ k, atTo s c sl (lo + 1) b = k := ⟨_, rfl⟩
          have HK0 := Lib.hid hk0
          have HK1 := Lib.hid hk1
          clear hk0 hk1
          go_upto_region 13 with fail
          go_upto_region 14 with (first | (go_at_call 175; refine (hat.out _ lo HMD.out _ HL.out.job).mono ?_; rintro e wn ⟨rfl, hbb⟩; rw [HK0.out]; have HL1 := Lib.hid (HL.out.keep hbb); clear hbb HL) | (go_at_call 175; refine (hat.out _ (lo + 1) HMD1.out _ HL1.out.job).mono ?_; rintro e wq ⟨rfl, hbb⟩; rw [HK1.out]; have HL2 := Lib.hid (HL1.out.keep hbb); clear hbb HL1) | (refine wpList_store_mid rfl A5 _ _ rfl wq.heap.size 0 (ag i64s 5 k0) rfl rfl ?hth ?hin ?hon ?_; (case hth => exact there_row (alloc_two _ _ _) _ (by rw [ag_size]; exact Nat.le_refl _)); (case hin => exact info5_ag _); (case hon => exact ag_one i64s 5 _)) | (refine wpList_store_mid rfl A5 _ _ rfl (wq.heap.size + 1) 0 (ag i64s 5 k1) rfl rfl ?hth2 ?hin2 ?hon2 ?_; (case hth2 => exact there_row (((only_setCells _ _ _ _).block _ (by omega)).trans (alloc_secondOf _ _ _)) _ (by rw [ag_size]; exact Nat.le_refl _)); (case hin2 => exact info5_ag _); (case hon2 => exact ag_one i64s 5 _)))
          refine cut_world (fun W => JK w B hb sh wq.heap.size (wq.heap.size + 1) s c sl k0 k1 W) (jk_new HL2.out k0 k1) ?_
          clear HL2
          intro V6 hV6
          obtain ⟨xb, hxb⟩ : ∃ xb, wq.heap.size + 1 = xb := ⟨_, rfl⟩
          rw [hxb] at hV6
          simp only [hxb]
          clear hxb
          generalize wq.heap.size = kb at *
          have HV6 := Lib.hid hV6
          have hm0 := hV6.js.m0
          have hm1 := hV6.js.m1
          clear hV6
          go_wp2_with (go_at_call 28; refine (hbn.out _).mono ?_; rintro e wr2 ⟨rfl, hbb⟩; have HV7 := Lib.hid (HV6.out.keep hbb); clear hbb)
          clear hm0 hm1 HV6
          go_loopw [16, 17, 66] (fun v16 v17 cnt wr => ∃ (bb : Nat) (k : Nat → Int), bb ≤ b ∧ cnt = .int .i64 bb ∧ JK w B hb sh kb xb s c sl k k1 wr ∧ finF s c bud b k1 (b - bb) bb k = finF s c bud b k1 b 0 k0) (fun _ _ cnt _ => b - (intOf cnt).toNat)
          case atStart => exact ⟨0, k0, by omega, rfl, HV7.out, rfl⟩
          case round =>
            clear HV7
            obtain ⟨bb, k, hbb, rfl, hL, hfin⟩ := hrel
            have HL := Lib.hid hL
            have HFI := Lib.hid hfin
            have hb0 : (0 : Int) ≤ bb := by omega
            clear hL hfin
            by_cases hlt : bb < b
            · have hlt' : (bb : Int) < b := by omega
              have hb5 : (bb : Int) < 5 := by omega
              go_upto_region 17 with fail
              clear hlt'
              go_upto_region 18 with (first | ((with_reducible refine gate_load A5 _ rfl ?_); refine load_row_g rfl A5 _ rfl kb rfl _ (ag i64s 5 k) (0, 0) _ HL.out.kk Tryd.underlying29 rfl ?hin ?_; (case hin => exact info5_ag _)) | (refine wpList_store_mid rfl A5 _ _ rfl wr.heap.size 0 (ag i64s 5 k) rfl rfl ?hth ?hin3 ?hon ?_; (case hth => exact there_row (alloc_at _ _) _ (by rw [ag_size]; exact Nat.le_refl _)); (case hin3 => exact info5_ag _); (case hon => exact ag_one i64s 5 _)))
              obtain ⟨q1, q2⟩ := k5_new wr k
              have hxs := HL.out.size
              refine cut_world (fun W => JK w B hb sh kb xb s c sl k k1 W ∧ Bx wr.heap.size A5 i64s 5 k W) ⟨HL.out.keep q1, q2⟩ ?_
              clear q1 q2 HL
              generalize wr.heap.size = mb at *
              rintro V7 ⟨hV7, hM7⟩
              have HV7 := Lib.hid hV7
              have HM7 := Lib.hid hM7
              have rn := ag_cell hV7.xx bb (by omega)
              have rm := ag_cell hM7 bb (by omega)
              have fm := (block_facts hM7).2.1 bb
              clear hV7 hM7
              go_upto_region 19 with fail
              obtain ⟨mo, hmo⟩ : ∃ mo, updI k bb (k1 bb) = mo := ⟨_, rfl⟩
              have HMO := Lib.hid hmo
              refine cut_world (fun W => JK w B hb sh kb xb s c sl k k1 W ∧ Bx mb A5 i64s 5 mo W) ⟨HV7.out.other (only_setCell _ ⟨mb, bb, none⟩ _) hxs, by rw [← hmo]; exact ag_store HM7.out bb (by omega) (k1 bb)⟩ ?_
              clear HV7 HM7 rn rm fm hmo
              rintro V8 ⟨hV8, hM8⟩
              have HL3 := Lib.hid hV8
              have HM3 := Lib.hid hM8
              clear hV8 hM8
              have hstep : finF s c bud b k1 (b - bb) bb k = if ¬ k1 bb = k bb ∧ bud < sumK s c mo b * c then k else finF s c bud b k1 (b - (bb + 1)) (bb + 1) mo := by
                rw [show b - bb = (b - (bb + 1)) + 1 from by omega, finF, HMO.out]
              by_cases hne : k1 bb = k bb
              · have heq := fun w => eq5_yes mo k (fun j hj => by rw [← HMO.out]; unfold updI; split; (rename_i e; rw [e, hne]); rfl) w
                rw [if_neg (by intro h; exact h.1 hne)] at hstep
                have HFN := Lib.hid (hstep.symm.trans HFI.out)
                clear hstep hne
                go_upto_region 20 with (first | ((with_reducible refine gate_load A5 _ rfl ?_); first | (refine load_row_g rfl A5 _ rfl kb rfl _ (ag i64s 5 k) (0, 0) _ HL3.out.kk Tryd.underlying29 rfl ?hin ?_; (case hin => exact info5_ag _)) | (refine load_row_g rfl A5 _ rfl mb rfl _ (ag i64s 5 mo) (0, 0) _ HM3.out Tryd.underlying29 rfl ?hin ?_; (case hin => exact info5_ag _)) | (refine load_row_g rfl A5 _ rfl mb rfl _ (ag i64s 5 mo) (0, 0) _ HM4.out Tryd.underlying29 rfl ?hin ?_; (case hin => exact info5_ag _))) | (go_at_call 174; refine (htt.out _ _ _ HL3.out.js.job).mono ?_; rintro e wq ⟨rfl, hbq⟩; have HL4 := Lib.hid (HL3.out.keep hbq); have HM4 := Lib.hid (HM3.out.keep hbq); clear hbq HL3 HM3))
                clear heq
                go_upto_region 21 with (first | ((with_reducible refine gate_load A5 _ rfl ?_); refine load_row_g rfl A5 _ rfl mb rfl _ (ag i64s 5 mo) (0, 0) _ HM3.out Tryd.underlying29 rfl ?hin ?_; (case hin => exact info5_ag _)) | (refine wpList_store_mid rfl A5 _ _ rfl kb 0 (ag i64s 5 mo) rfl rfl ?hth ?hin3 ?hon ?_; (case hth => exact there_row HL3.out.kk _ (by rw [ag_size, ag_size]; exact Nat.le_refl _)); (case hin3 => exact info5_ag _); (case hon => exact ag_one i64s 5 _)))
                refine cut_world (fun W => JK w B hb sh kb xb s c sl mo k1 W) (HL3.out.onlyK (only_setCells _ _ _ _) (cells_all HL3.out.kk (N := 5) (ag_size _ _ _) (ag_size _ _ _))) ?_
                clear HL3 HM3
                intro V9 hV9
                have HV9 := Lib.hid hV9
                clear hV9
                go_wp2_with fail
                go_roundw
                case rel => exact ⟨bb + 1, mo, by omega, rfl, HV9.out, HFN.out⟩
                case measure => simp [intOf]; omega
              · have heq := fun w => eq5_no mo k bb (by omega) (by rw [← HMO.out]; unfold updI; rw [if_pos rfl]; exact hne) w
                by_cases hov : bud < sumK s c mo b * c
                · rw [if_pos ⟨hne, hov⟩] at hstep
                  have HRES := Lib.hid ((hstep.symm.trans HFI.out).symm)
                  clear hstep hne
                  go_upto_region 22 with (first | ((with_reducible refine gate_load A5 _ rfl ?_); first | (refine load_row_g rfl A5 _ rfl kb rfl _ (ag i64s 5 k) (0, 0) _ HL3.out.kk Tryd.underlying29 rfl ?hin ?_; (case hin => exact info5_ag _)) | (refine load_row_g rfl A5 _ rfl mb rfl _ (ag i64s 5 mo) (0, 0) _ HM3.out Tryd.underlying29 rfl ?hin ?_; (case hin => exact info5_ag _)) | (refine load_row_g rfl A5 _ rfl mb rfl _ (ag i64s 5 mo) (0, 0) _ HM4.out Tryd.underlying29 rfl ?hin ?_; (case hin => exact info5_ag _))) | (go_at_call 174; refine (htt.out _ _ _ HL3.out.js.job).mono ?_; rintro e wq ⟨rfl, hbq⟩; have HL4 := Lib.hid (HL3.out.keep hbq); have HM4 := Lib.hid (HM3.out.keep hbq); clear hbq HL3 HM3))
                  clear heq hov
                  go_wp2_with (first | ((with_reducible refine gate_load A5 _ rfl ?_); refine load_row_g rfl A5 _ rfl kb rfl _ (ag i64s 5 k) (0, 0) _ HL4.out.kk Tryd.underlying29 rfl ?hin ?_; (case hin => exact info5_ag _)) | (refine wpList_store_mid rfl A5 _ _ rfl (B + 1) 0 (ag i64s 5 k) rfl rfl ?hth ?hin3 ?hon ?_; (case hth => exact there_row HL4.out.js.rb _ (by rw [ag_size, ag_size]; exact Nat.le_refl _)); (case hin3 => exact info5_ag _); (case hon => exact ag_one i64s 5 _)))
                  have q1 := cells_all HL4.out.js.rb (N := 5) (ag_size _ _ _) (cs := ag i64s 5 k) (ag_size _ _ _)
                  have hfinb := (only_setCells _ (B + 1) 0 (ag i64s 5 k).toList).below HL4.out.js.below (by omega)
                  refine bodyPost_ret (v := .agg (ag i64s 5 k)) ?_ rfl ⟨lo, by rw [HSL.out]; exact HFO.out, ?_, by rw [HBd.out]; exact hfinb⟩
                  · exact results_cell_row rfl _ _ (B + 1) _ _ _ _ rfl q1 Tryd.underlying29 rfl (info5_ag _)
                  · rw [HSL.out, HK0.out, HK1.out, HRES.out]
                · rw [if_neg (by intro h; exact hov h.2)] at hstep
                  have HFN := Lib.hid (hstep.symm.trans HFI.out)
                  clear hstep hne
                  go_upto_region 20 with (first | ((with_reducible refine gate_load A5 _ rfl ?_); first | (refine load_row_g rfl A5 _ rfl kb rfl _ (ag i64s 5 k) (0, 0) _ HL3.out.kk Tryd.underlying29 rfl ?hin ?_; (case hin => exact info5_ag _)) | (refine load_row_g rfl A5 _ rfl mb rfl _ (ag i64s 5 mo) (0, 0) _ HM3.out Tryd.underlying29 rfl ?hin ?_; (case hin => exact info5_ag _)) | (refine load_row_g rfl A5 _ rfl mb rfl _ (ag i64s 5 mo) (0, 0) _ HM4.out Tryd.underlying29 rfl ?hin ?_; (case hin => exact info5_ag _))) | (go_at_call 174; refine (htt.out _ _ _ HL3.out.js.job).mono ?_; rintro e wq ⟨rfl, hbq⟩; have HL4 := Lib.hid (HL3.out.keep hbq); have HM4 := Lib.hid (HM3.out.keep hbq); clear hbq HL3 HM3))
                  clear heq hov
                  go_upto_region 21 with (first | ((with_reducible refine gate_load A5 _ rfl ?_); refine load_row_g rfl A5 _ rfl mb rfl _ (ag i64s 5 mo) (0, 0) _ HM4.out Tryd.underlying29 rfl ?hin ?_; (case hin => exact info5_ag _)) | (refine wpList_store_mid rfl A5 _ _ rfl kb 0 (ag i64s 5 mo) rfl rfl ?hth ?hin3 ?hon ?_; (case hth => exact there_row HL4.out.kk _ (by rw [ag_size, ag_size]; exact Nat.le_refl _)); (case hin3 => exact info5_ag _); (case hon => exact ag_one i64s 5 _)))
                  refine cut_world (fun W => JK w B hb sh kb xb s c sl mo k1 W) (HL4.out.onlyK (only_setCells _ _ _ _) (cells_all HL4.out.kk (N := 5) (ag_size _ _ _) (ag_size _ _ _))) ?_
                  clear HL4 HM4
                  intro V9 hV9
                  have HV9 := Lib.hid hV9
                  clear hV9
                  go_wp2_with fail
                  go_roundw
                  case rel => exact ⟨bb + 1, mo, by omega, rfl, HV9.out, HFN.out⟩
                  case measure => simp [intOf]; omega
            · have hlt' : ¬ (bb : Int) < b := by omega
              obtain rfl : bb = b := by omega
              have HRES := Lib.hid (show finF s c bud bb k1 bb 0 k0 = k by have := HFI.out; rw [Nat.sub_self] at this; exact this.symm)
              clear hlt
              go_upto_region 22 with fail
              clear hlt'
              go_wp2_with (first | ((with_reducible refine gate_load A5 _ rfl ?_); refine load_row_g rfl A5 _ rfl kb rfl _ (ag i64s 5 k) (0, 0) _ HL.out.kk Tryd.underlying29 rfl ?hin ?_; (case hin => exact info5_ag _)) | (refine wpList_store_mid rfl A5 _ _ rfl (B + 1) 0 (ag i64s 5 k) rfl rfl ?hth ?hin3 ?hon ?_; (case hth => exact there_row HL.out.js.rb _ (by rw [ag_size, ag_size]; exact Nat.le_refl _)); (case hin3 => exact info5_ag _); (case hon => exact ag_one i64s 5 _)))
              have q1 := cells_all HL.out.js.rb (N := 5) (ag_size _ _ _) (cs := ag i64s 5 k) (ag_size _ _ _)
              have hfinb := (only_setCells _ (B + 1) 0 (ag i64s 5 k).toList).below HL.out.js.below (by omega)
              refine bodyPost_ret (v := .agg (ag i64s 5 k)) ?_ rfl ⟨lo, by rw [HSL.out]; exact HFO.out, ?_, by rw [HBd.out]; exact hfinb⟩
              · exact results_cell_row rfl _ _ (B + 1) _ _ _ _ rfl q1 Tryd.underlying29 rfl (info5_ag _)
              · rw [HSL.out, HK0.out, HK1.out, HRES.out]
end Go.Proofs.YtbcdnbbpkikppaaDoor
end

section
namespace Go.Proofs.YtbcdnbbpkikppaaDoor
open Go.RowKit Go.Vec Go.Cost
set_option linter.unusedSimpArgs false
set_option linter.unusedVariables false
/-- Fuel that is left ahead of a level and a band. -/
def FL (nb L b : Nat) : Nat := (3000 - L) * (nb + 1) + (nb - b) + 1
theorem run_skip {t bud c : Int} {nb L b : Nat} {l : List Int} {s : Int} (hb : b < nb) (h : ¬(l.getD b 0 < capF (widL.getD b 0) ∧ lev t b l = L)) : runI t bud c nb (FL nb L b) L b l s = runI t bud c nb (FL nb L (b + 1)) L (b + 1) l s := by
  have e : FL nb L b = FL nb L (b + 1) + 1 := by unfold FL; omega
  rw [e]
  simp only [runI]
  rw [if_pos hb, if_neg h]
theorem run_stop {t bud c : Int} {nb L b : Nat} {l : List Int} {s : Int} (hb : b < nb) (h : l.getD b 0 < capF (widL.getD b 0) ∧ lev t b l = L) (hs : bud < s + more c b l) : runI t bud c nb (FL nb L b) L b l s = l := by
  have e : FL nb L b = FL nb L (b + 1) + 1 := by unfold FL; omega
  rw [e]
  simp only [runI]
  rw [if_pos hb, if_pos h, if_pos hs]
theorem run_go {t bud c : Int} {nb L b : Nat} {l : List Int} {s : Int} (hb : b < nb) (h : l.getD b 0 < capF (widL.getD b 0) ∧ lev t b l = L) (hs : ¬bud < s + more c b l) : runI t bud c nb (FL nb L b) L b l s = runI t bud c nb (FL nb L (b + 1)) L (b + 1) (inc b l) (s + more c b l) := by
  have e : FL nb L b = FL nb L (b + 1) + 1 := by unfold FL; omega
  rw [e]
  simp only [runI]
  rw [if_pos hb, if_pos h, if_neg hs]
theorem run_next {t bud c : Int} {nb L : Nat} {l : List Int} {s : Int} (hL : L < 3000) : runI t bud c nb (FL nb L nb) L nb l s = runI t bud c nb (FL nb (L + 1) 0) ((L + 1 : Nat) : Int) 0 l s := by
  have e : FL nb L nb = FL nb (L + 1) 0 + 1 := by
    unfold FL
    obtain ⟨d, hd⟩ : ∃ d, 3000 - L = d + 1 := ⟨3000 - L - 1, by omega⟩
    rw [show 3000 - (L + 1) = d by omega, hd, Nat.add_mul]
    omega
  rw [e]
  simp only [runI]
  rw [if_neg (by omega), if_pos (by omega)]
  rfl
theorem run_start {s c : Int} (hR : RightP s c) (t bud : Int) (nb : Nat) (hnb : bandsF s c = nb) : runI t bud c nb (FL nb 1 0) ((1 : Nat) : Int) 0 [0, 0, 0, 0, 0] 0 = allocF s c t bud := by
  have hbd := bandsF_bd s c
  have h := run_eq hR t bud nb hnb (FL nb 1 0) 161 1 0 [0, 0, 0, 0, 0] (by omega) (by omega) (by omega) ?_ (fit_zero s c) ?_ (by simp [sum5])
  · rw [total_zero s c hR] at h
    exact h
  · unfold FL
    have e : ((3000 : Int) - 1).toNat = 2999 := rfl
    rw [e]
    omega
  · intro j hj hcj
    have hj5 : j < 5 := by omega
    have hp := slopeR_pos t j hj5
    have e : ([0, 0, 0, 0, 0] : List Int).getD j 0 = 0 := by
      have : j = 0 ∨ j = 1 ∨ j = 2 ∨ j = 3 ∨ j = 4 := by omega
      rcases this with rfl | rfl | rfl | rfl | rfl <;> rfl
    have e1 : lev t j [0, 0, 0, 0, 0] = slopeR t j := by unfold lev; rw [e]; omega
    rw [e1]
    by_cases e2 : slopeR t j = 1
    · exact .inr ⟨e2, by omega⟩
    · exact .inl (by omega)
/-- Five numbers as a list. -/
def L5 (f : Nat → Int) : List Int := [f 0, f 1, f 2, f 3, f 4]
theorem L5_at (f : Nat → Int) (j : Nat) (hj : j < 5) : (L5 f).getD j 0 = f j := by
  rcases (show j = 0 ∨ j = 1 ∨ j = 2 ∨ j = 3 ∨ j = 4 by omega) with h | h | h | h | h <;> subst h <;> rfl
theorem L5_ext (f g : Nat → Int) (h : ∀ j, j < 5 → f j = g j) : L5 f = L5 g := by
  unfold L5; rw [h 0 (by omega), h 1 (by omega), h 2 (by omega), h 3 (by omega), h 4 (by omega)]
theorem L5_inc (f : Nat → Int) (b : Nat) (hb : b < 5) : inc b (L5 f) = L5 (updI f b (f b + 1)) := by
  unfold inc
  rw [L5_at f b hb]
  rcases (show b = 0 ∨ b = 1 ∨ b = 2 ∨ b = 3 ∨ b = 4 by omega) with h | h | h | h | h <;> subst h <;> rfl
theorem ag_L5 (f : Nat → Int) : Value.agg (ag i64s 5 f) = aggOf (L5 f) := rfl
theorem sumK_ext (s c : Int) (f g : Nat → Int) : ∀ n : Nat, (∀ j, j < n → f j = g j) → sumK s c f n = sumK s c g n
  | 0, _ => rfl
  | n + 1, h => by rw [sumK, sumK, sumK_ext s c f g n (fun j hj => h j (by omega)), h n (by omega)]
theorem sumK_upd (s c : Int) (k : Nat → Int) (b : Nat) (x : Int) : ∀ n : Nat, b < n → sumK s c (updI k b x) n = sumK s c k n + bitsF (widthF s c b) x - bitsF (widthF s c b) (k b)
  | 0, h => absurd h (by omega)
  | n + 1, h => by
    rw [sumK, sumK]
    by_cases e : b = n
    · subst e
      rw [sumK_ext s c (updI k b x) k b (fun j hj => by unfold updI; rw [if_neg (by omega)])]
      unfold updI
      rw [if_pos rfl]
      omega
    · rw [sumK_upd s c k b x n (by omega)]
      have : updI k b x n = k n := by unfold updI; rw [if_neg (by omega)]
      rw [this]
      omega
theorem bits_up : ∀ i : Fin 5, ∀ a : Fin 33, (a.val : Int) < capF (widL.getD i.val 0) → bitsF (widL.getD i.val 0) (a.val : Int) ≤ bitsF (widL.getD i.val 0) ((a.val : Int) + 1) := by decide +kernel
theorem bits_upI (b : Nat) (hb : b < 5) (a : Int) (h0 : 0 ≤ a) (h : a < capF (widL.getD b 0)) : bitsF (widL.getD b 0) a ≤ bitsF (widL.getD b 0) (a + 1) := by
  have h32 := (capF_bd (widL.getD b 0)).2
  have := bits_up ⟨b, hb⟩ ⟨a.toNat, by omega⟩
  simp only [Int.toNat_of_nonneg h0] at this
  exact this h
/-- One level on: a band gets one pulse more just if its next level is this one. -/
theorem at_step (L q cp : Int) (hq : 1 ≤ q) (hL : 1 ≤ L) : (min ((L - 1) / q) cp < cp ∧ (min ((L - 1) / q) cp + 1) * q = L → min (L / q) cp = min ((L - 1) / q) cp + 1) ∧
    (¬ (min ((L - 1) / q) cp < cp ∧ (min ((L - 1) / q) cp + 1) * q = L) → min (L / q) cp = min ((L - 1) / q) cp) := by
  have a1 : (L - 1) / q * q ≤ L - 1 := Int.ediv_mul_le _ (by omega)
  have a2 : L - 1 < ((L - 1) / q + 1) * q := Int.lt_ediv_add_one_mul_self _ (by omega)
  have b1 : L / q * q ≤ L := Int.ediv_mul_le _ (by omega)
  have b2 : L < (L / q + 1) * q := Int.lt_ediv_add_one_mul_self _ (by omega)
  have c1 : (L - 1) / q ≤ L / q := Int.ediv_le_ediv (by omega) (by omega)
  generalize (L - 1) / q = d at *
  generalize L / q = e at *
  rw [Int.add_mul, Int.one_mul] at a2 b2
  have c2 : e ≤ d + 1 := by
    by_cases h : e ≤ d + 1
    · exact h
    · have : (d + 2) * q ≤ e * q := Int.mul_le_mul_of_nonneg_right (by omega) (by omega)
      rw [Int.add_mul] at this
      omega
  constructor
  · rintro ⟨h1, h2⟩
    have hm : min d cp = d := by omega
    rw [hm, Int.add_mul, Int.one_mul] at h2
    have : e = d + 1 := by
      by_cases h : e = d
      · subst h; omega
      · omega
    omega
  · intro h
    by_cases h1 : d < cp
    · have hm : min d cp = d := by omega
      rw [hm] at h
      have h2 : ¬ (d + 1) * q = L := fun h3 => h ⟨h1, h3⟩
      rw [Int.add_mul, Int.one_mul] at h2
      have : e = d := by
        by_cases h3 : e = d + 1
        · subst h3
          rw [Int.add_mul, Int.one_mul] at b1
          omega
        · omega
      omega
    · omega
theorem run_over {t bud c : Int} {nb : Nat} (hnb : nb ≤ 5) (hc : 1 ≤ c) {l : List Int} (hl : ∀ j, j < 5 → 0 ≤ l.getD j 0) : ∀ (F : Nat) (lv : Int) (b : Nat) (s : Int), bud < s → runI t bud c nb F lv b l s = l
  | 0, _, _, _, _ => rfl
  | F + 1, lv, b, s, hs => by
    simp only [runI]
    by_cases hb : b < nb
    · rw [if_pos hb]
      by_cases hf : l.getD b 0 < capF (widL.getD b 0) ∧ lev t b l = lv
      · have h1 := bits_upI b (by omega) (l.getD b 0) (hl b (by omega)) hf.1
        have hm : 0 ≤ more c b l := Int.mul_nonneg (by omega) (by omega)
        rw [if_pos hf, if_pos (by omega)]
      · rw [if_neg hf]
        exact run_over hnb hc hl F lv (b + 1) s hs
    · rw [if_neg hb]
      by_cases h3 : lv < 3000
      · rw [if_pos h3]
        exact run_over hnb hc hl F (lv + 1) 0 s hs
      · rw [if_neg h3]
theorem run_full {t bud c : Int} {nb : Nat} {l : List Int} (hl : ∀ j, j < nb → capF (widL.getD j 0) ≤ l.getD j 0) : ∀ (F : Nat) (lv : Int) (b : Nat) (s : Int), runI t bud c nb F lv b l s = l
  | 0, _, _, _ => rfl
  | F + 1, lv, b, s => by
    simp only [runI]
    by_cases hb : b < nb
    · have := hl b hb
      rw [if_pos hb, if_neg (by omega)]
      exact run_full hl F lv (b + 1) s
    · rw [if_neg hb]
      by_cases h3 : lv < 3000
      · rw [if_pos h3]
        exact run_full hl F (lv + 1) 0 s
      · rw [if_neg h3]
section
variable {s c t bud : Int} {nb : Nat} (hR : RightP s c) (hnb : bandsF s c = nb)
/-- Midway through a level. -/
def mid (s c t : Int) (nb L b : Nat) : Nat → Int := fun j => if j < b then atTo s c (slTo s c t nb) (L : Int) nb j else atTo s c (slTo s c t nb) ((L : Int) - 1) nb j
theorem mid_succ (L b : Nat) : mid s c t nb L (b + 1) = updI (mid s c t nb L b) b (atTo s c (slTo s c t nb) (L : Int) nb b) := by
  funext j
  unfold updI mid
  by_cases e : j = b
  · rw [if_pos e, if_pos (by omega), e]
  · rw [if_neg e]
    by_cases e2 : j < b
    · rw [if_pos e2, if_pos (by omega)]
    · rw [if_neg e2, if_neg (by omega)]
theorem mid_all (L j : Nat) (hj : j < 5) : mid s c t nb L nb j = atTo s c (slTo s c t nb) (L : Int) nb j := by
  unfold mid
  by_cases h : j < nb
  · rw [if_pos h]
  · rw [if_neg h]
    unfold atTo
    rw [if_neg h, if_neg h]
include hnb in
theorem at_val (lv : Int) (b : Nat) (hb : b < nb) : atTo s c (slTo s c t nb) lv nb b = min (lv / slopeR t b) (capF (widL.getD b 0)) := by
  have hB : (b : Int) < bandsF s c := by omega
  unfold atTo atF slTo
  rw [if_pos hb, if_pos hb, width_in hB, slopeR_eq s c t b hB]
include hnb in
/-- What a band's turn comes to. -/
theorem mid_step (L b : Nat) (hL : 1 ≤ L) (hb : b < nb) :
    (mid s c t nb L b b < capF (widL.getD b 0) ∧ (mid s c t nb L b b + 1) * slopeR t b = L → atTo s c (slTo s c t nb) (L : Int) nb b = mid s c t nb L b b + 1) ∧
    (¬ (mid s c t nb L b b < capF (widL.getD b 0) ∧ (mid s c t nb L b b + 1) * slopeR t b = L) → atTo s c (slTo s c t nb) (L : Int) nb b = mid s c t nb L b b) ∧ 0 ≤ mid s c t nb L b b := by
  have h5 := bandsF_bd s c
  have hq := slopeR_pos t b (by omega)
  have hm : mid s c t nb L b b = min (((L : Int) - 1) / slopeR t b) (capF (widL.getD b 0)) := by
    unfold mid
    rw [if_neg (by omega), at_val hnb _ b hb]
  have hw := capF_w s c b nb hnb hb
  rw [width_in (show (b : Int) < bandsF s c by omega)] at hw
  rw [hm, at_val hnb _ b hb]
  have h := at_step L (slopeR t b) (capF (widL.getD b 0)) hq.1 (by omega)
  refine ⟨h.1, h.2, ?_⟩
  have : 0 ≤ ((L : Int) - 1) / slopeR t b := Int.ediv_nonneg (by omega) (by omega)
  omega
include hR hnb in
theorem mid_sum (L b : Nat) (hL : 1 ≤ L) (hb : b < nb) (hf : mid s c t nb L b b < capF (widL.getD b 0) ∧ (mid s c t nb L b b + 1) * slopeR t b = L) :
    sumK s c (mid s c t nb L (b + 1)) nb * c = sumK s c (mid s c t nb L b) nb * c + more c b (L5 (mid s c t nb L b)) ∧ 0 ≤ more c b (L5 (mid s c t nb L b)) := by
  have h5 := bandsF_bd s c
  obtain ⟨h1, h2, h3⟩ := mid_step (t := t) hnb L b hL hb
  have hw : widthF s c b = widL.getD b 0 := width_in (by omega)
  rw [mid_succ, sumK_upd s c _ b _ nb hb, h1 hf, hw]
  have hm : more c b (L5 (mid s c t nb L b)) = c * (bitsF (widL.getD b 0) (mid s c t nb L b b + 1) - bitsF (widL.getD b 0) (mid s c t nb L b b)) := by
    unfold more
    rw [L5_at _ b (by omega)]
  have hup := bits_upI b (by omega) _ h3 hf.1
  have hc : 1 ≤ c ∧ c ≤ 2 := by unfold RightP at hR; omega
  rw [hm]
  refine ⟨?_, Int.mul_nonneg (by omega) (by omega)⟩
  rw [Int.mul_comm c, ← Int.add_mul]
  congr 1
  omega
include hnb in
theorem mid_same (L b : Nat) (hL : 1 ≤ L) (hb : b < nb) (hf : ¬ (mid s c t nb L b b < capF (widL.getD b 0) ∧ (mid s c t nb L b b + 1) * slopeR t b = L)) : mid s c t nb L (b + 1) = mid s c t nb L b := by
  obtain ⟨h1, h2, h3⟩ := mid_step (t := t) hnb L b hL hb
  rw [mid_succ, h2 hf]
  funext j
  unfold updI
  split
  · rename_i e; rw [e]
  · rfl
include hR hnb in
theorem mid_up (L : Nat) (hL : 1 ≤ L) : ∀ (d b : Nat), b + d = nb → sumK s c (mid s c t nb L b) nb * c ≤ sumK s c (mid s c t nb L nb) nb * c
  | 0, b, h => by rw [show b = nb from by omega]; exact Int.le_refl _
  | d + 1, b, h => by
    have ih := mid_up L hL d (b + 1) (by omega)
    by_cases hf : mid s c t nb L b b < capF (widL.getD b 0) ∧ (mid s c t nb L b b + 1) * slopeR t b = L
    · have := mid_sum (t := t) hR hnb L b hL (by omega) hf
      omega
    · rw [mid_same hnb L b hL (by omega) hf] at ih
      exact ih
theorem sum_all (L : Nat) (hn5 : nb ≤ 5) : sumK s c (mid s c t nb L nb) nb = sumK s c (atTo s c (slTo s c t nb) (L : Int) nb) nb := sumK_ext s c _ _ nb fun j hj => mid_all L j (by omega)
theorem sum_none (L : Nat) : mid s c t nb L 0 = atTo s c (slTo s c t nb) ((L : Int) - 1) nb := by
  funext j
  unfold mid
  rw [if_neg (by omega)]
include hnb in
theorem fire_iff (L b : Nat) (hb : b < nb) : ((L5 (mid s c t nb L b)).getD b 0 < capF (widL.getD b 0) ∧ lev t b (L5 (mid s c t nb L b)) = L) ↔ (mid s c t nb L b b < capF (widL.getD b 0) ∧ (mid s c t nb L b b + 1) * slopeR t b = L) := by
  have h5 := bandsF_bd s c
  unfold lev
  rw [L5_at _ b (by omega)]
include hR hnb in
/-- A level all of whose pulses fit. -/
theorem run_level (L : Nat) (hL : 1 ≤ L) (hfit : sumK s c (atTo s c (slTo s c t nb) (L : Int) nb) nb * c ≤ bud) : ∀ b, b ≤ nb →
    runI t bud c nb (FL nb L 0) L 0 (L5 (mid s c t nb L 0)) (sumK s c (mid s c t nb L 0) nb * c) = runI t bud c nb (FL nb L b) L b (L5 (mid s c t nb L b)) (sumK s c (mid s c t nb L b) nb * c)
  | 0, _ => rfl
  | b + 1, h => by
    have h5 := bandsF_bd s c
    rw [run_level L hL hfit b (by omega)]
    have hb : b < nb := by omega
    have hup := mid_up (t := t) hR hnb L hL (nb - (b + 1)) (b + 1) (by omega)
    rw [sum_all L (by omega)] at hup
    by_cases hf : mid s c t nb L b b < capF (widL.getD b 0) ∧ (mid s c t nb L b b + 1) * slopeR t b = L
    · obtain ⟨e1, e2⟩ := mid_sum (t := t) hR hnb L b hL hb hf
      rw [run_go hb ((fire_iff hnb L b hb).2 hf) (by omega), ← e1, L5_inc _ b (by omega), mid_succ, (mid_step hnb L b hL hb).1 hf]
    · rw [run_skip hb (fun h => hf ((fire_iff hnb L b hb).1 h)), mid_same hnb L b hL hb hf]
include hR hnb in
theorem run_up (L : Nat) (hL : 1 ≤ L) (hL3 : L < 3000) (hfit : sumK s c (atTo s c (slTo s c t nb) (L : Int) nb) nb * c ≤ bud) :
    runI t bud c nb (FL nb L 0) L 0 (L5 (atTo s c (slTo s c t nb) ((L : Int) - 1) nb)) (sumK s c (atTo s c (slTo s c t nb) ((L : Int) - 1) nb) nb * c) =
    runI t bud c nb (FL nb (L + 1) 0) ((L + 1 : Nat) : Int) 0 (L5 (atTo s c (slTo s c t nb) (L : Int) nb)) (sumK s c (atTo s c (slTo s c t nb) (L : Int) nb) nb * c) := by
  have h5 := bandsF_bd s c
  have h := run_level hR hnb L hL hfit nb (Nat.le_refl _)
  rw [sum_all L (by omega), sum_none, run_next hL3] at h
  rw [h, L5_ext _ _ (fun j hj => mid_all L j hj)]
include hR hnb in
theorem at_mono (L : Nat) (hL : 1 ≤ L) : sumK s c (atTo s c (slTo s c t nb) ((L : Int) - 1) nb) nb * c ≤ sumK s c (atTo s c (slTo s c t nb) (L : Int) nb) nb * c := by
  have h5 := bandsF_bd s c
  have h := mid_up (t := t) hR hnb L hL nb 0 (by omega)
  rwa [sum_all L (by omega), sum_none] at h
include hnb in
theorem at_zero (j : Nat) : atTo s c (slTo s c t nb) 0 nb j = 0 := by
  by_cases hj : j < nb
  · rw [at_val hnb 0 j hj, Int.zero_ediv]
    have hw := capF_w s c j nb hnb hj
    rw [width_in (show (j : Int) < bandsF s c by omega)] at hw
    omega
  · unfold atTo; rw [if_neg hj]
theorem sum_zero (s c : Int) (k : Nat → Int) (nb : Nat) (hnb : bandsF s c = nb) (hk : ∀ j, k j = 0) : ∀ n : Nat, n ≤ nb → sumK s c k n = 0
  | 0, _ => rfl
  | n + 1, h => by
    have hw := capF_w s c n nb hnb (by omega)
    have hb : bitsF (widthF s c n) 0 = 0 := by
      unfold bitsF
      rw [if_pos ⟨Int.le_refl 0, by omega⟩]
      rfl
    rw [sumK, sum_zero s c k nb hnb hk n (by omega), hk n, hb]
    rfl
include hR hnb in
/-- The levels up to one all of whose pulses fit. -/
theorem run_to (lo : Nat) (hlo : lo < 2999) (hfit : lo = 0 ∨ sumK s c (atTo s c (slTo s c t nb) (lo : Int) nb) nb * c ≤ bud) :
    allocF s c t bud = runI t bud c nb (FL nb (lo + 1) 0) ((lo + 1 : Nat) : Int) 0 (L5 (atTo s c (slTo s c t nb) (lo : Int) nb)) (sumK s c (atTo s c (slTo s c t nb) (lo : Int) nb) nb * c) := by
  rw [← run_start hR t bud nb hnb]
  induction lo with
  | zero =>
    have e0 : L5 (atTo s c (slTo s c t nb) ((0 : Nat) : Int) nb) = [0, 0, 0, 0, 0] := by
      unfold L5
      rw [show ((0 : Nat) : Int) = 0 from rfl, at_zero hnb, at_zero hnb, at_zero hnb, at_zero hnb, at_zero hnb]
    have hz : sumK s c (atTo s c (slTo s c t nb) ((0 : Nat) : Int) nb) nb = 0 := sum_zero s c _ nb hnb (fun j => at_zero hnb j) nb (Nat.le_refl _)
    rw [e0, hz, Int.zero_mul]
  | succ n ih =>
    have hf : sumK s c (atTo s c (slTo s c t nb) ((n + 1 : Nat) : Int) nb) nb * c ≤ bud := by
      rcases hfit with h | h
      · omega
      · exact h
    have hm := at_mono (t := t) hR hnb (n + 1) (by omega)
    have e1 : (((n + 1 : Nat) : Int) - 1) = (n : Int) := by omega
    rw [e1] at hm
    have h := run_up hR hnb (t := t) (bud := bud) (n + 1) (by omega) (by omega) hf
    rw [e1] at h
    rw [ih (by omega) (.inr (by omega)), h]
include hR hnb in
/-- The level that does not fit whole, band by band. -/
theorem run_fin (L : Nat) (hL : 1 ≤ L)
    (hE : (sumK s c (mid s c t nb L nb) nb * c ≤ bud ∨ mid s c t nb L nb = mid s c t nb L 0) → runI t bud c nb (FL nb L nb) L nb (L5 (mid s c t nb L nb)) (sumK s c (mid s c t nb L nb) nb * c) = L5 (mid s c t nb L nb)) :
    ∀ (d b : Nat), b + d = nb → (sumK s c (mid s c t nb L b) nb * c ≤ bud ∨ mid s c t nb L b = mid s c t nb L 0) →
    runI t bud c nb (FL nb L b) L b (L5 (mid s c t nb L b)) (sumK s c (mid s c t nb L b) nb * c) = L5 (finF s c bud nb (atTo s c (slTo s c t nb) (L : Int) nb) d b (mid s c t nb L b))
  | 0, b, h, hi => by
    obtain rfl : b = nb := by omega
    exact hE hi
  | d + 1, b, h, hi => by
    have h5 := bandsF_bd s c
    have hb : b < nb := by omega
    have hst := mid_step (t := t) hnb L b hL hb
    rw [finF]
    by_cases hf : mid s c t nb L b b < capF (widL.getD b 0) ∧ (mid s c t nb L b b + 1) * slopeR t b = L
    · obtain ⟨e1, e2⟩ := mid_sum (t := t) hR hnb L b hL hb hf
      have hne : ¬ atTo s c (slTo s c t nb) (L : Int) nb b = mid s c t nb L b b := by rw [hst.1 hf]; omega
      have e3 : sumK s c (updI (mid s c t nb L b) b (atTo s c (slTo s c t nb) (L : Int) nb b)) nb * c = sumK s c (mid s c t nb L b) nb * c + more c b (L5 (mid s c t nb L b)) := by rw [← mid_succ]; exact e1
      by_cases ho : bud < sumK s c (mid s c t nb L b) nb * c + more c b (L5 (mid s c t nb L b))
      · rw [run_stop hb ((fire_iff hnb L b hb).2 hf) ho, if_pos ⟨hne, by rw [e3]; exact ho⟩]
      · rw [run_go hb ((fire_iff hnb L b hb).2 hf) ho, if_neg (by rw [e3]; intro hh; exact ho hh.2), ← e1, L5_inc _ b (by omega), ← hst.1 hf, ← mid_succ]
        exact run_fin L hL hE d (b + 1) (by omega) (.inl (by omega))
    · have hsm := mid_same hnb L b hL hb hf
      rw [run_skip hb (fun h => hf ((fire_iff hnb L b hb).1 h)), if_neg (by rw [hst.2.1 hf]; intro hh; exact hh.1 rfl), ← mid_succ, hsm]
      have := run_fin L hL hE d (b + 1) (by omega) (by rw [hsm]; exact hi)
      rw [hsm] at this
      exact this
include hR hnb in
/-- What the search comes to is what layer 14 gives. -/
theorem found_alloc (lo : Int) (h : Found s c bud (slTo s c t nb) nb lo (lo + 1)) :
    L5 (finF s c bud nb (atTo s c (slTo s c t nb) (lo + 1) nb) nb 0 (atTo s c (slTo s c t nb) lo nb)) = allocF s c t bud := by
  have h5 := bandsF_bd s c
  have hc : 1 ≤ c ∧ c ≤ 2 := by unfold RightP at hR; omega
  have htb := topTo_bd s c (slTo s c t nb) nb hnb (slTo_in s c t nb hnb) nb (Nat.le_refl _)
  have h1 := h.lo0
  have h3 := h.hi0
  obtain ⟨n, rfl⟩ := Int.eq_ofNat_of_zero_le h1
  have hn : n < 2999 := by omega
  have hfit : n = 0 ∨ sumK s c (atTo s c (slTo s c t nb) (n : Int) nb) nb * c ≤ bud := by
    rcases h.low with h | h
    · left; omega
    · right; exact h
  rw [run_to hR hnb n hn hfit]
  have e1 : (((n + 1 : Nat) : Int) - 1) = (n : Int) := by omega
  have em : mid s c t nb (n + 1) 0 = atTo s c (slTo s c t nb) (n : Int) nb := by rw [sum_none, e1]
  have h0 : mid s c t nb (n + 1) 0 = mid s c t nb (n + 1) 0 := rfl
  have key := run_fin (t := t) (bud := bud) hR hnb (n + 1) (by omega) ?_ nb 0 (by omega) (.inr rfl)
  · rw [em] at key
    rw [key]
    rfl
  · intro hi
    rcases h.high with ht | hno
    · refine run_full (fun j hj => ?_) _ _ _ _
      rw [L5_at _ j (by omega), mid_all _ j (by omega), at_val hnb _ j hj]
      have hq := slopeR_pos t j (by omega)
      have hB : (j : Int) < bandsF s c := by omega
      have htj : slopeR t j * capF (widL.getD j 0) ≤ topTo s c (slTo s c t nb) nb := by
        have : ∀ m : Nat, j < m → m ≤ nb → slopeR t j * capF (widL.getD j 0) ≤ topTo s c (slTo s c t nb) m := by
          intro m
          induction m with
          | zero => intro h; omega
          | succ m ih =>
            intro h1 h2
            rw [topTo]
            by_cases e : j = m
            · subst e
              have : slTo s c t nb j * capF (widthF s c j) = slopeR t j * capF (widL.getD j 0) := by
                unfold slTo
                rw [if_pos hj, slopeR_eq s c t j hB, width_in hB]
              omega
            · have := ih (by omega) (by omega)
              omega
        exact this nb hj (Nat.le_refl _)
      have hle : capF (widL.getD j 0) ≤ ((n + 1 : Nat) : Int) / slopeR t j := by
        rw [Int.le_ediv_iff_mul_le (by omega), Int.mul_comm]
        omega
      omega
    · have hno' : ¬ sumK s c (atTo s c (slTo s c t nb) ((n + 1 : Nat) : Int) nb) nb * c ≤ bud := by
        unfold Fits at hno
        rwa [show ((n : Int) + 1) = ((n + 1 : Nat) : Int) from by omega] at hno
      have hs := sum_all (s := s) (c := c) (t := t) (nb := nb) (n + 1) (by omega)
      refine run_over (by omega) hc.1 (fun j hj => ?_) _ _ _ _ (by rw [hs]; omega)
      rw [L5_at _ j hj, mid_all _ j hj]
      by_cases hjn : j < nb
      · rw [at_val hnb _ j hjn]
        have hq := slopeR_pos t j (by omega)
        have hw := capF_w s c j nb hnb hjn
        rw [width_in (show (j : Int) < bandsF s c by omega)] at hw
        have : 0 ≤ ((n + 1 : Nat) : Int) / slopeR t j := Int.ediv_nonneg (by omega) (by omega)
        omega
      · unfold atTo; rw [if_neg hjn]; exact Int.le_refl 0
end
theorem allocF_not (s c t bud : Int) (hR : ¬ RightP s c) : allocF s c t bud = [0, 0, 0, 0, 0] := by
  have hb : bandsF s c = 0 := by unfold bandsF; rw [if_neg hR]
  have h : bestF s c t [0, 0, 0, 0, 0] < 0 := by
    have h1 := bestF_lt s c t [0, 0, 0, 0, 0]
    omega
  unfold allocF
  generalize hz : ([0, 0, 0, 0, 0] : List Int) = z at *
  show allocGo s c t bud (160 + 1) z = z
  generalize (160 : Nat) = f
  simp only [allocGo]
  rw [if_pos h]
/-- A share shares out as layer 14 does. -/
theorem shareAlloc (hb sh : Nat) (s c t bud : Int) (w : World) (h : ShareAt hb sh w) (hW : WidthW w) :
    Calls Tryd.prog 171 #[.pointer (some ⟨hb, 0, none⟩), .agg #[.int .i64 s, .int .i64 c], .int .i64 t, .int .i64 bud] w fun e w' => e = .returned (aggOf (allocF s c t bud)) ∧ Below w.heap.size w w' := by
  have h5 := bandsF_bd s c
  obtain ⟨nb, hnb⟩ := Int.eq_ofNat_of_zero_le h5.1
  refine (shAlloc hb sh s c t bud nb hnb w h hW).mono ?_
  rintro e w' ⟨lo, hF, rfl, hbw⟩
  refine ⟨?_, hbw⟩
  rw [ag_L5]
  by_cases hR : RightP s c
  · rw [found_alloc hR hnb lo hF]
  · have h0 : nb = 0 := by unfold bandsF at hnb; rw [if_neg hR] at hnb; omega
    subst h0
    rw [allocF_not s c t bud hR]
    have e : ∀ j, finF s c bud 0 (atTo s c (slTo s c t 0) (lo + 1) 0) 0 0 (atTo s c (slTo s c t 0) lo 0) j = 0 := fun j => by
      show atTo s c (slTo s c t 0) lo 0 j = 0
      unfold atTo
      rw [if_neg (by omega)]
    unfold L5
    rw [e, e, e, e, e]
end Go.Proofs.YtbcdnbbpkikppaaDoor
end

section
namespace Go
open Go.RowKit
theorem setCell_block (w : World) (p : Addr) (v : Value) (k : Nat) (h : p.block ≠ k) : (w.setCell p v).heap[k]? = w.heap[k]? := by
  show (w.heap.modify p.block _)[k]? = _
  rw [Array.getElem?_modify, if_neg h]
end Go
namespace Go
open Go.RowKit
/-- All that was there stays, but one block. -/
structure But (K : Nat) (w w' : World) : Prop where
  os : w'.os = w.os
  tape : w'.tape = w.tape
  output : w'.output = w.output
  size : w.heap.size ≤ w'.heap.size
  block : ∀ k, k < w.heap.size → K ≠ k → w'.heap[k]? = w.heap[k]?
theorem But.refl (K : Nat) (w : World) : But K w w := ⟨rfl, rfl, rfl, Nat.le_refl _, fun _ _ _ => rfl⟩
theorem But.below {K : Nat} {w a b : World} (h : But K w a) (hb : Below w.heap.size a b) : But K w b :=
  ⟨hb.os.trans h.os, hb.tape.trans h.tape, hb.output.trans h.output, Nat.le_trans h.size hb.size, fun k hk hne => (hb.block k hk).trans (h.block k hk hne)⟩
theorem But.grew {K : Nat} {w a : World} (h : But K w a) (x : Grown.By) : But K w (a.grew x) := h.below (below_grew (Below.refl _ _) h.size x)
theorem But.setCell {K : Nat} {w a : World} (h : But K w a) (i : Nat) (s : Option Nat) (v : Value) : But K w (a.setCell ⟨K, i, s⟩ v) :=
  ⟨h.os, h.tape, h.output, by simpa using h.size, fun k hk hne => (setCell_block _ _ _ _ hne).trans (h.block k hk hne)⟩
theorem But.toBelow {K B : Nat} {w a : World} (h : But K w a) (hB : B ≤ K) (hs : B ≤ w.heap.size) : Below B w a :=
  ⟨h.os, h.tape, h.output, h.size, fun k hk => h.block k (by omega) (by omega)⟩
theorem But.frozen {K : Nat} {w a : World} (h : But K w a) (b o : Nat) (hb : b < w.heap.size) (hne : K ≠ b) : a.frozen? ⟨b, o, none⟩ = w.frozen? ⟨b, o, none⟩ := by
  unfold World.frozen?; rw [h.block b hb hne]
theorem But.cell {K : Nat} {w a : World} (h : But K w a) (b o : Nat) (hb : b < w.heap.size) (hne : K ≠ b) : a.cell? ⟨b, o, none⟩ = w.cell? ⟨b, o, none⟩ := by
  unfold World.cell?; rw [h.block b hb hne]
end Go
namespace Go.Proofs.YtbcdnbbpkikppaaDoor
open Go.RowKit Go.BigFrame Go.Vec Go.Cost Go.Proofs.YtbcdnbbpkikppaaDoorW.PrintWords
open RFrameTools
set_option linter.unusedSimpArgs false
def rowL (n : Nat) : List Int := (List.range (cap n + 1)).map fun k => ((pays n k : Nat) : Int)
set_option maxRecDepth 100000 in
theorem row_table : ∀ n : Fin 16, spinetref13_Row.f 2000 ((n.val + 1 : Nat) : Int) = some (rowL (n.val + 1)) := by decide +kernel
theorem row_in (n : Nat) (hn : 1 ≤ n ∧ n ≤ 16) : spinetref13_Row.f 2000 (n : Int) = some (rowL n) := by
  have := row_table ⟨n - 1, by omega⟩
  simpa only [show n - 1 + 1 = n by omega] using this
theorem rowL_len (n : Nat) : (rowL n).length = cap n + 1 := by simp [rowL]
theorem rowL_at (n k : Nat) (hk : k ≤ cap n) : (rowL n)[k]? = some ((pays n k : Nat) : Int) := by
  simp [rowL, show k < cap n + 1 by omega]
theorem drawn_below {w w' : World} (h : Drawn0 w w') : Below w.heap.size w w' := by
  obtain ⟨n, rfl⟩ := h.out
  exact below_drewN (Below.refl _ _) _
theorem refRight (s c : Int) (w : World) : Calls Tryd.prog 18 #[.int .i64 s, .int .i64 c] w fun e w' => e = .returned (.bool (decide (RightP s c))) ∧ Below w.heap.size w w' := by
  refine (spinetref05_Right.calls s c (decide (RightP s c)) w ?_).mono fun e w' ⟨he, h⟩ => ⟨he, drawn_below h⟩
  unfold spinetref05_Right.f RightP
  by_cases h0 : s ≥ 0
  · rw [if_pos h0]
    by_cases h1 : s ≤ 2
    · rw [if_pos h1]
      by_cases h2 : c = 1
      · rw [if_pos h2, decide_eq_true (show 0 ≤ s ∧ s < 3 ∧ 1 ≤ c ∧ c ≤ 2 by omega)]
      · rw [if_neg h2]
        congr 1
        rw [Bool.eq_iff_iff, beq_iff_eq, decide_eq_true_eq]
        omega
    · rw [if_neg h1, decide_eq_false (show ¬(0 ≤ s ∧ s < 3 ∧ 1 ≤ c ∧ c ≤ 2) by omega)]
  · rw [if_neg h0, decide_eq_false (show ¬(0 ≤ s ∧ s < 3 ∧ 1 ≤ c ∧ c ≤ 2) by omega)]
theorem refBands (s c : Int) (hR : RightP s c) (w : World) : Calls Tryd.prog 67 #[.int .i64 s] w fun e w' => e = .returned (.int .i64 (bandsF s c)) ∧ Below w.heap.size w w' := by
  refine (spinetref05_Bands.calls s (bandsF s c) w ?_).mono fun e w' ⟨he, h⟩ => ⟨he, drawn_below h⟩
  unfold spinetref05_Bands.f bandsF
  rw [if_pos hR]
  unfold RightP at hR
  unfold wrap64
  congr 1
  omega
def fromL : List Int := [0, 2, 4, 8, 16]
theorem refBand (b : Nat) (hb : b < 5) (w : World) : Calls Tryd.prog 75 #[.int .i64 b] w fun e w' => e = .returned (.tuple #[.int .i64 (fromL.getD b 0), .int .i64 (widL.getD b 0)]) ∧ Below w.heap.size w w' := by
  refine (spinetref05_Band.calls 10 b (fromL.getD b 0) (widL.getD b 0) w ?_).mono fun e w' ⟨he, h⟩ => ⟨he, drawn_below h⟩
  have : b = 0 ∨ b = 1 ∨ b = 2 ∨ b = 3 ∨ b = 4 := by omega
  rcases this with rfl | rfl | rfl | rfl | rfl <;> decide +kernel
theorem refSlope (t : Int) (b : Nat) (hb : b < 5) (w : World) : Calls Tryd.prog 85 #[.int .i64 t, .int .i64 b] w fun e w' => e = .returned (.int .i64 (slopeR t b)) ∧ Below w.heap.size w w' := by
  have hB := Lib.hid (fun w => refBand b hb w)
  have h5 : ∀ i : Fin 5, 2 ≤ widL.getD i.val 0 ∧ widL.getD i.val 0 ≤ 16 := by decide
  have hw := h5 ⟨b, hb⟩
  simp only at hw
  have E := Lib.hid (show slopeR t b = 64 / widL.getD b 0 + (8 - min (max t 0) 7) * b from rfl)
  generalize widL.getD b 0 = wd at *
  have hq := quo64 wd hw.1
  have hne : (wd == 0) = false := by rw [beq_eq_false_iff_ne]; omega
  have hne' : ¬wd = 0 := by omega
  obtain ⟨w0, w1⟩ := hw
  obtain ⟨q0, q1⟩ := hq
  by_cases h0 : t < 0
  · have e : min (max t 0) 7 = 0 := by omega
    rw [e] at E
    clear e
    go_enter Tryd.func85, Tryd.ntmps85
    go_wp2_with fail
    refine (hB.out _).mono ?_
    rintro e w' ⟨rfl, hb1⟩; obtain ⟨x1, rfl⟩ := below_as_grew hb1; clear hb1
    go_wp2_with fail
    go_ret
    exact ⟨ret_int (by rw [E.out]; omega), by (repeat' (first | with_reducible (first | exact Below.refl _ _ | assumption | refine Below.alloc ?_ ?_ _ | refine below_grew ?_ ?_ _ | refine Below.setCell ?_ ?_ _ | refine Below.drew ?_ | refine below_drewN ?_ _) | omega | (simp; done) | (simp; omega)))⟩
  · by_cases h7 : 7 < t
    · have e : min (max t 0) 7 = 7 := by omega
      rw [e] at E
      clear e
      go_enter Tryd.func85, Tryd.ntmps85
      go_wp2_with fail
      refine (hB.out _).mono ?_
      rintro e w' ⟨rfl, hb1⟩; obtain ⟨x1, rfl⟩ := below_as_grew hb1; clear hb1
      go_wp2_with fail
      go_ret
      exact ⟨ret_int (by rw [E.out]; omega), by (repeat' (first | with_reducible (first | exact Below.refl _ _ | assumption | refine Below.alloc ?_ ?_ _ | refine below_grew ?_ ?_ _ | refine Below.setCell ?_ ?_ _ | refine Below.drew ?_ | refine below_drewN ?_ _) | omega | (simp; done) | (simp; omega)))⟩
    · have e : min (max t 0) 7 = t := by omega
      rw [e] at E
      clear e
      have hm : 0 ≤ (8 - t) * (b : Int) ∧ (8 - t) * (b : Int) ≤ 32 := by
        have : b = 0 ∨ b = 1 ∨ b = 2 ∨ b = 3 ∨ b = 4 := by omega
        rcases this with rfl | rfl | rfl | rfl | rfl <;> simp <;> omega
      obtain ⟨m0, m1⟩ := hm
      have e8 : wrap64 (8 - t) = 8 - t := IntWalk.wrap64_in _ (by omega)
      have e9 : wrap64 ((8 - t) * (b : Int)) = (8 - t) * (b : Int) := IntWalk.wrap64_in _ (by omega)
      go_enter Tryd.func85, Tryd.ntmps85
      go_wp2_with fail
      refine (hB.out _).mono ?_
      rintro e w' ⟨rfl, hb1⟩; obtain ⟨x1, rfl⟩ := below_as_grew hb1; clear hb1
      go_wp2_with fail
      go_ret
      refine ⟨ret_int ?_, by (repeat' (first | with_reducible (first | exact Below.refl _ _ | assumption | refine Below.alloc ?_ ?_ _ | refine below_grew ?_ ?_ _ | refine Below.setCell ?_ ?_ _ | refine Below.drew ?_ | refine below_drewN ?_ _) | omega | (simp; done) | (simp; omega)))⟩
      rw [E.out]
/-- A slice of whole numbers in a block of its own. -/
def RowAt (w : World) (v : Value) (r : List Int) : Prop := ∃ g c cs, v = .slice (some ⟨g, 0, none⟩) r.length c ∧ w.heap[g]? = some (.cells cs 3 (0, 0)) ∧ ∀ j, j < r.length → cs[j]? = some (.int .i64 (r.getD j 0))
theorem row_facts {w : World} {base : Nat} {ok : Nat → Prop} {v : Value} {r : List Int} (h : Kd.R (Kd.int .i64) 3 w base ok v r) (hn : 0 < r.length) : RowAt w v r := by
  obtain ⟨h0, inner, hown, hr⟩ := h
  obtain ⟨hl, h2⟩ := hown
  have hz : (Kd.int .i64).sz = 1 := rfl
  have hr1 : inner.length = r.length * 1 := hr.1
  rcases h2 with ⟨rfl, he⟩ | ⟨g, cap, cur, rfl, hg, hh, rest⟩
  · rw [he] at hr1
    simp at hr1
    omega
  · refine ⟨g, cap, cur, rfl, hh, fun j hj => ?_⟩
    have h1 : (inner.drop (j * 1)).take 1 = [.int .i64 r[j]] := hr.2 j _ (List.getElem?_eq_getElem hj)
    obtain ⟨_, _, _, r4⟩ := rest
    have r5 : cur.toList.take (r.length * 1) = inner := r4
    have h3 : inner[j]? = some (.int .i64 r[j]) := by
      have := congrArg (fun l => l[0]?) h1
      simpa [List.getElem?_take, List.getElem?_drop] using this
    rw [← r5, List.getElem?_take_of_lt (by omega)] at h3
    rw [List.getD_eq_getElem?_getD, List.getElem?_eq_getElem hj]
    simpa using h3
theorem refRow (b : Nat) (hb : b < 5) (w : World) : Calls Tryd.prog 84 #[.int .i64 (widL.getD b 0)] w fun e w' => ∃ v, e = .returned v ∧ RowAt w' v (rowL (widL.getD b 0).toNat) ∧ Below w.heap.size w w' := by
  have h5 : ∀ i : Fin 5, 1 ≤ (widL.getD i.val 0).toNat ∧ (widL.getD i.val 0).toNat ≤ 16 ∧ widL.getD i.val 0 = ((widL.getD i.val 0).toNat : Nat) := by decide
  obtain ⟨h1, h2, h3⟩ := h5 ⟨b, hb⟩
  simp only at h1 h2 h3
  have h4 := row_in (widL.getD b 0).toNat ⟨h1, h2⟩
  rw [← h3] at h4
  exact (spinetref13_Row.calls 2000 _ _ w h4).mono fun e w' ⟨v, he, hR, hb⟩ => ⟨v, he, row_facts hR (by rw [rowL_len]; omega), hb⟩
theorem RowAt.below {w w' : World} {v : Value} {r : List Int} (h : RowAt w v r) (hb : Below w.heap.size w w') : RowAt w' v r := by
  obtain ⟨g, c, cs, hv, hg, hc⟩ := h
  exact ⟨g, c, cs, hv, (hb.block g (Array.getElem?_eq_some_iff.1 hg).1).trans hg, hc⟩
/-- An append to a row of another type leaves it. -/
theorem RowAt.grown {w w' : World} {v u : Value} {r : List Int} {base n size : Nat} {e : TypeId} {xs : List Value} (h : RowAt w v r) (ho : w.ownsRow base e size u n xs) (he : e ≠ 3) (hg : w.grownBy w' u.ownBlock) : RowAt w' v r := by
  obtain ⟨g, c, cs, hv, hb, hc⟩ := h
  refine ⟨g, c, cs, hv, (hg.block g (Array.getElem?_eq_some_iff.1 hb).1 (fun hh => ?_)).trans hb, hc⟩
  rcases ho.2 with ⟨rfl, _⟩ | ⟨g', cap, cur, rfl, _, hh', _⟩
  · exact absurd hh (by simp [Value.ownBlock])
  · have : g = g' := by
      have := hh
      simp [Value.ownBlock] at this
      omega
    subst this
    rw [hb] at hh'
    cases hh'
    exact he rfl
theorem rowsInfo : (Tryd.prog.info? 60).map (fun i => (i.zero, i.size, i.bytes)) = some (some (.slice none 0 0), 1, 24) := by kernel_rfl
/-- What is left of the places. -/
def FF (nb L b : Nat) : Nat := (3000 - L) * (nb + 1) + (nb - b) + 1
theorem runI_skip {t bud c : Int} {nb L b : Nat} {l : List Int} {s : Int} (hb : b < nb) (h : ¬(l.getD b 0 < capF (widL.getD b 0) ∧ lev t b l = L)) : runI t bud c nb (FF nb L b) L b l s = runI t bud c nb (FF nb L (b + 1)) L (b + 1) l s := by
  have e : FF nb L b = FF nb L (b + 1) + 1 := by unfold FF; omega
  rw [e]
  simp only [runI]
  rw [if_pos hb, if_neg h]
theorem runI_stop {t bud c : Int} {nb L b : Nat} {l : List Int} {s : Int} (hb : b < nb) (h : l.getD b 0 < capF (widL.getD b 0) ∧ lev t b l = L) (hs : bud < s + more c b l) : runI t bud c nb (FF nb L b) L b l s = l := by
  have e : FF nb L b = FF nb L (b + 1) + 1 := by unfold FF; omega
  rw [e]
  simp only [runI]
  rw [if_pos hb, if_pos h, if_pos hs]
theorem runI_go {t bud c : Int} {nb L b : Nat} {l : List Int} {s : Int} (hb : b < nb) (h : l.getD b 0 < capF (widL.getD b 0) ∧ lev t b l = L) (hs : ¬bud < s + more c b l) : runI t bud c nb (FF nb L b) L b l s = runI t bud c nb (FF nb L (b + 1)) L (b + 1) (inc b l) (s + more c b l) := by
  have e : FF nb L b = FF nb L (b + 1) + 1 := by unfold FF; omega
  rw [e]
  simp only [runI]
  rw [if_pos hb, if_pos h, if_neg hs]
theorem runI_next {t bud c : Int} {nb L : Nat} {l : List Int} {s : Int} (hL : L < 3000) : runI t bud c nb (FF nb L nb) L nb l s = runI t bud c nb (FF nb (L + 1) 0) ((L + 1 : Nat) : Int) 0 l s := by
  have e : FF nb L nb = FF nb (L + 1) 0 + 1 := by
    unfold FF
    obtain ⟨d, hd⟩ : ∃ d, 3000 - L = d + 1 := ⟨3000 - L - 1, by omega⟩
    rw [show 3000 - (L + 1) = d by omega, hd, Nat.add_mul]
    omega
  rw [e]
  simp only [runI]
  rw [if_neg (by omega), if_pos (by omega)]
  rfl
theorem runI_last {t bud c : Int} {nb : Nat} {l : List Int} {s : Int} : runI t bud c nb (FF nb 3000 nb) ((3000 : Nat) : Int) nb l s = l := by
  have e : FF nb 3000 nb = 0 + 1 := by unfold FF; omega
  rw [e]
  simp only [runI]
  rw [if_neg (by omega), if_neg (by omega)]
theorem runI_start {s c : Int} (hR : RightP s c) (t bud : Int) (nb : Nat) (hnb : bandsF s c = nb) : runI t bud c nb (FF nb 1 0) ((1 : Nat) : Int) 0 [0, 0, 0, 0, 0] 0 = allocF s c t bud := by
  have hbd := bandsF_bd s c
  have h := run_eq hR t bud nb hnb (FF nb 1 0) 161 1 0 [0, 0, 0, 0, 0] (by omega) (by omega) (by omega) ?_ (fit_zero s c) ?_ (by simp [sum5])
  · rw [total_zero s c hR] at h
    exact h
  · unfold FF
    have e : ((3000 : Int) - 1).toNat = 2999 := rfl
    rw [e]
    omega
  · intro j hj hcj
    have hj5 : j < 5 := by omega
    have hp := slopeR_pos t j hj5
    have e : ([0, 0, 0, 0, 0] : List Int).getD j 0 = 0 := by
      have : j = 0 ∨ j = 1 ∨ j = 2 ∨ j = 3 ∨ j = 4 := by omega
      rcases this with rfl | rfl | rfl | rfl | rfl <;> rfl
    have e1 : lev t j [0, 0, 0, 0, 0] = slopeR t j := by unfold lev; rw [e]; omega
    rw [e1]
    by_cases e2 : slopeR t j = 1
    · exact .inr ⟨e2, by omega⟩
    · exact .inl (by omega)
theorem total_le {s c : Int} (hc : 1 ≤ c ∧ c ≤ 2) (l : List Int) : -10 ≤ totalF s c l ∧ totalF s c l ≤ 2000 := by
  have h := sumAt_bd s c l 5
  unfold totalF
  split
  · have : c = 1 ∨ c = 2 := by omega
    rcases this with rfl | rfl <;> omega
  · omega
theorem five {l : List Int} (h : l.length = 5) : ∃ a0 a1 a2 a3 a4, l = [a0, a1, a2, a3, a4] := by
  match l, h with
  | [a, b, c, d, e], _ => exact ⟨a, b, c, d, e, rfl⟩
theorem row_bits (b : Nat) (hb : b < 5) (kb cp : Nat) (hcap : capF (widL.getD b 0) = cp) (h : kb ≤ cp) : (rowL (widL.getD b 0).toNat).getD kb 0 = bitsF (widL.getD b 0) kb ∧ 0 ≤ bitsF (widL.getD b 0) kb ∧ bitsF (widL.getD b 0) kb ≤ 200 := by
  have h5 : ∀ i : Fin 5, 1 ≤ widL.getD i.val 0 ∧ widL.getD i.val 0 ≤ 16 := by decide
  obtain ⟨hw1, hw2⟩ := h5 ⟨b, hb⟩
  simp only at hw1 hw2
  have hc := capF_in _ ⟨hw1, hw2⟩
  have h2 := bitsF_bd (widL.getD b 0) kb
  have h3 := bitsF_pos (widL.getD b 0) kb (by omega) (by omega)
  refine ⟨?_, h3, h2.2⟩
  rw [bitsF_eq (by omega) (by omega), List.getD_eq_getElem?_getD, rowL_at _ _ (by omega)]
  rfl
def cellsOf (l : List Int) : Array Value := (l.map (Value.int .i64)).toArray
theorem cellsOf_at {l : List Int} {j : Nat} (hj : j < l.length) : (cellsOf l)[j]? = some (.int .i64 (l.getD j 0)) := by
  unfold cellsOf
  rw [List.getElem?_toArray, List.getElem?_map, List.getElem?_eq_getElem hj, List.getD_eq_getElem?_getD, List.getElem?_eq_getElem hj]
  rfl
theorem cellsOf_set (l : List Int) (b : Nat) (x : Int) : (cellsOf l).setIfInBounds b (.int .i64 x) = cellsOf (l.set b x) := by
  unfold cellsOf
  simp [List.map_set]
set_option maxHeartbeats 4000000 in
set_option maxRecDepth 100000 in
theorem refAlloc (s c t bud : Int) (hR : RightP s c) (w : World) : Calls Tryd.prog 61 #[.int .i64 s, .int .i64 c, .int .i64 t, .int .i64 bud] w fun e w' => e = .returned (aggOf (allocF s c t bud)) ∧ Below w.heap.size w w' := by
  have hbd := bandsF_bd s c
  obtain ⟨nb, hnb⟩ := Int.eq_ofNat_of_zero_le hbd.1
  have hnb3 : 3 ≤ nb := by unfold bandsF at hnb; rw [if_pos hR] at hnb; unfold RightP at hR; omega
  have hnb5 : nb ≤ 5 := by omega
  have hbn := Lib.hid (fun w => refBands s c hR w)
  rw [hnb] at hbn
  have HR := Lib.hid hR
  have HN := Lib.hid hnb
  have hcc : 1 ≤ c ∧ c ≤ 2 := by unfold RightP at hR; omega
  obtain ⟨hcc1, hcc2⟩ := hcc
  obtain ⟨A, hA⟩ : ∃ A, A = allocF s c t bud := ⟨_, rfl⟩
  have HA := Lib.hid hA
  rw [← hA]
  clear hR hnb hbd hA
  go_enter Tryd.func61, Tryd.ntmps61
  go_wp2_with fail
  refine (hbn.out _).mono ?_
  rintro e w' ⟨rfl, hb1⟩; obtain ⟨x1, rfl⟩ := below_as_grew hb1; clear hb1
  go_wp2_with fail
  refine cut_world (fun V => Below w.heap.size w V ∧ V.heap[w.heap.size]? = some (.cells #[.int .i64 0, .int .i64 0, .int .i64 0, .int .i64 0, .int .i64 0] 29 (0, 0)) ∧ V.heap[w.heap.size + 1]? = some (.cells #[.int .i64 0, .int .i64 0, .int .i64 0, .int .i64 0, .int .i64 0] 29 (0, 0))) ⟨by (repeat' (first | with_reducible (first | exact Below.refl _ _ | assumption | refine Below.alloc ?_ ?_ _ | refine below_grew ?_ ?_ _ | refine Below.setCell ?_ ?_ _ | refine Below.drew ?_ | refine below_drewN ?_ _) | omega | (simp; done) | (simp; omega))), ?_, ?_⟩ ?_
  · rw [World.grew_block _ _ _ (by simp; omega), alloc_old _ _ _ (by simp)]
    exact alloc_at _ _
  · rw [World.grew_block _ _ _ (by simp)]
    have e : w.heap.size + 1 = (w.alloc (.cells #[.int .i64 0, .int .i64 0, .int .i64 0, .int .i64 0, .int .i64 0] 29)).heap.size := by simp
    rw [e]
    exact alloc_at _ _
  rintro V ⟨hV, hv0, hv1⟩
  have hVs : w.heap.size + 1 < V.heap.size := (Array.getElem?_eq_some_iff.1 hv1).1
  generalize hBd : w.heap.size = B at *
  have HBd := Lib.hid hBd
  have HV := Lib.hid hV
  have HV0 := Lib.hid hv0
  have HV1 := Lib.hid hv1
  clear hBd hV hv0 hv1
  go_loopw [10, 12] (fun v cnt wr => ∃ k : Nat, k ≤ nb ∧ cnt = .int .i64 k ∧ ∃ vs : List Value, vs.length = k ∧ wr.ownsRow V.heap.size 60 1 v k vs ∧ (∀ j, j < k → RowAt wr (vs.getD j undef) (rowL (widL.getD j 0).toNat)) ∧ Below V.heap.size V wr) (fun _ cnt _ => nb - (intOf cnt).toNat)
  case atStart => exact ⟨0, by omega, rfl, [], rfl, World.ownsRow_nil _ _ _ _, fun j hj => absurd hj (by omega), Below.refl _ _⟩
  case round =>
    obtain ⟨k, hk, rfl, vs, hvs, hown, hrows, hbel⟩ := hrel
    have Hvs := Lib.hid hvs
    have Hrows := Lib.hid hrows
    have hbs := hbel.size
    clear hvs hrows
    by_cases hlt : k < nb
    · have hlt' : (k : Int) < nb := by omega
      have hband := Lib.hid (fun w => refBand k (by omega) w)
      have hrow := Lib.hid (fun w => refRow k (by omega) w)
      generalize hwd : widL.getD k 0 = wd at *
      generalize fromL.getD k 0 = fr at *
      have Hwd := Lib.hid hwd
      clear hwd
      go_wp2_with fail
      refine (hband.out _).mono ?_
      rintro e w' ⟨rfl, hb1⟩; obtain ⟨x1, rfl⟩ := below_as_grew hb1; clear hb1
      go_wp2_with fail
      refine (hrow.out _).mono ?_
      rintro e w2 ⟨v2, rfl, hR2, hb2⟩
      obtain ⟨g, gc, gcs, rfl, hg1, hg2⟩ := hR2
      have HG := Lib.hid (show RowAt w2 (.slice (some ⟨g, 0, none⟩) (rowL wd.toNat).length gc) (rowL wd.toNat) from ⟨g, gc, gcs, rfl, hg1, hg2⟩)
      generalize hrl : (rowL wd.toNat).length = rl at *
      clear hg1 hg2 hrl
      have hbw := (below_grew (Below.refl _ _) (Nat.le_refl _) _).trans (hb2.mono (by simp))
      have hown2 := ownsRow_below hown hbw
      have hb2s := hbw.size
      go_wp2_with (at_builtin; refine wpList_append_one rfl _ _ 173 rfl V.heap.size 60 _ 1 24 Tryd.underlying173 rowsInfo rfl (by decide) _ k _ rfl hown2 _ [_] rfl ?hg rfl ?h1 ?h63 ?hby ?hba ?_; (case hg => rfl); (case h1 => simp [Value.oneCell']; done); (case h63 => exact maxLen_le (by omega)); (case hby => omega); (case hba => omega); intro v' w3 hown3 hbel3 hgr3 _)
      go_roundw
      case rel =>
        refine ⟨k + 1, by omega, by go_num, vs ++ [_], by simp [Hvs.out], hown3, fun j hj => ?_, (hbel.trans (hbw.mono hbs)).trans hbel3⟩
        by_cases e : j < k
        · have e1 : ∀ x : Value, (vs ++ [x]).getD j undef = vs.getD j undef := fun x => by
            rw [List.getD_eq_getElem?_getD, List.getElem?_append_left (by rw [Hvs.out]; exact e), ← List.getD_eq_getElem?_getD]
          rw [e1]
          exact ((Hrows.out j e).below hbw).grown hown2 (by decide) hgr3
        · obtain rfl : j = k := by omega
          have e1 : ∀ x : Value, (vs ++ [x]).getD j undef = x := fun x => by
            rw [List.getD_eq_getElem?_getD, List.getElem?_append_right (by rw [Hvs.out]; exact Nat.le_refl _)]
            simp [Hvs.out]
          rw [e1, Hwd.out]
          exact HG.out.grown hown2 (by decide) hgr3
      case measure => simp [intOf]; omega
    · obtain rfl : k = nb := by omega
      obtain ⟨Y, rfl⟩ : ∃ Y : World, Y = wr := ⟨_, rfl⟩
      obtain ⟨G, gcap, hvv, hf1, hf2⟩ := hown.form (by omega)
      have HcG := Lib.hid (fun j u (h : vs[j]? = some u) => hown.cells (g := G) (by rw [hvv]; rfl) j u h)
      subst hvv
      have hB1 : Y.heap[B + 1]? = some (.cells (cellsOf [0, 0, 0, 0, 0]) 29 (0, 0)) := (hbel.block (B + 1) hVs).trans HV1.out
      have hB0 : Y.heap[B]? = some (.cells #[.int .i64 0, .int .i64 0, .int .i64 0, .int .i64 0, .int .i64 0] 29 (0, 0)) := (hbel.block B (by omega)).trans HV0.out
      have HW0 := Lib.hid (show Below B w Y from HV.out.trans (hbel.mono (by omega)))
      obtain ⟨b00, b01, b02⟩ := block_facts hB0
      have HB0 := Lib.hid b00
      have HB0F := Lib.hid b01
      have HB1 := Lib.hid hB1
      have hB1s : B + 1 < Y.heap.size := by omega
      -- a band's row
      have Hrow := Lib.hid (fun (W : World) (hW : But (B + 1) Y W) (j : Nat) (hj : j < k) => (show ∃ g gc, g < Y.heap.size ∧ W.cell? ⟨G, j, none⟩ = some (.slice (some ⟨g, 0, none⟩) (rowL (widL.getD j 0).toNat).length gc) ∧ ∀ i, i < (rowL (widL.getD j 0).toNat).length → W.cell? ⟨g, i, none⟩ = some (.int .i64 ((rowL (widL.getD j 0).toNat).getD i 0)) from by
        obtain ⟨g, gc, cs, hv, hg, hcs⟩ := Hrows.out j hj
        have hgl : g < Y.heap.size := (Array.getElem?_eq_some_iff.1 hg).1
        have hgB : B + 1 ≠ g := fun e => by
          subst e
          rw [HB1.out] at hg
          cases hg
        refine ⟨g, gc, hgl, ?_, fun i hi => ?_⟩
        · rw [hW.cell G j hf2 (by omega)]
          have h1 := HcG.out j (vs.getD j undef) (by rw [List.getD_eq_getElem?_getD, List.getElem?_eq_getElem (by rw [Hvs.out]; exact hj)]; rfl)
          rw [hv] at h1
          have : (⟨G, 0, none⟩ : Addr).add j = ⟨G, j, none⟩ := by unfold Addr.add; split <;> simp_all
          rw [this] at h1
          exact h1
        · rw [hW.cell g i hgl hgB]
          unfold World.cell?
          rw [hg]
          exact hcs i hi))
      have hRun := Lib.hid (runI_start HR.out t bud k HN.out)
      have hFit0 := Lib.hid (fit_zero s c)
      have hTot0 := Lib.hid (total_zero s c HR.out)
      clear hB0 b00 b01 hB1 hown hbel Hrows Hvs HcG HV HV0 HV1 hbn
      go_wp2_with fail
      go_loopw [15, 16] (fun sum lv wo => ∃ (L : Nat) (l : List Int), 1 ≤ L ∧ L ≤ 3001 ∧ lv = .int .i64 L ∧ sum = .int .i64 (totalF s c l) ∧ FitL s c l ∧ (if L ≤ 3000 then runI t bud c k (FF k L 0) L 0 l (totalF s c l) = A else l = A) ∧ But (B + 1) Y wo ∧ wo.heap[B + 1]? = some (.cells (cellsOf l) 29 (0, 0))) (fun _ lv _ => 3001 - (intOf lv).toNat)
      case atStart =>
        refine ⟨1, [0, 0, 0, 0, 0], by omega, by omega, rfl, by rw [hTot0.out], hFit0.out, ?_, But.refl _ _, HB1.out⟩
        rw [if_pos (by omega), hTot0.out, HA.out]
        exact hRun.out
      case round =>
        obtain ⟨L, l, hL1, hL2, rfl, rfl, hfit, hgo, hBut, hBl⟩ := hrel
        have HGo := Lib.hid hgo
        have HFit := Lib.hid hfit
        have HBut := Lib.hid hBut
        have HBl := Lib.hid hBl
        clear hgo hfit hBut hBl
        by_cases hLt : L ≤ 3000
        · have hLt' : (L : Int) ≤ 3000 := by omega
          have HGo1 := Lib.hid ((show (if L ≤ 3000 then runI t bud c k (FF k L 0) L 0 l (totalF s c l) = A else l = A) = (runI t bud c k (FF k L 0) L 0 l (totalF s c l) = A) from if_pos hLt) ▸ HGo.out)
          clear HGo
          have hYs := HBut.out.size
          go_wp2_with fail
          go_loopw [15, 17] (fun sum bd wi => ∃ (b : Nat) (li : List Int), b ≤ k ∧ bd = .int .i64 b ∧ sum = .int .i64 (totalF s c li) ∧ FitL s c li ∧ runI t bud c k (FF k L b) L b li (totalF s c li) = A ∧ But (B + 1) Y wi ∧ wi.heap[B + 1]? = some (.cells (cellsOf li) 29 (0, 0))) (fun _ bd _ => k - (intOf bd).toNat)
          case atStart => exact ⟨0, l, by omega, rfl, rfl, HFit.out, HGo1.out, HBut.out, HBl.out⟩
          case round =>
            obtain ⟨b, li, hbk, rfl, rfl, hfit2, hgo2, hBut2, hBl2⟩ := hrel
            obtain ⟨W, rfl⟩ : ∃ W : World, W = wr := ⟨_, rfl⟩
            by_cases hb : b < k
            · have hb' : (b : Int) < k := by omega
              have hb0 : (0 : Int) ≤ b := by omega
              have hb5 : (b : Int) < 5 := by omega
              have hbb : (b : Int) < bandsF s c := by rw [HN.out]; exact hb'
              have hWs := hBut2.size
              obtain ⟨g, gc, hgl, hG1, hG2⟩ := Hrow.out W hBut2 b hb
              have HG2 := Lib.hid hG2
              have lG : G < W.heap.size := by omega
              have lg : g < W.heap.size := by omega
              obtain ⟨hlen, hin⟩ := hfit2
              obtain ⟨hk0, hk1⟩ := hin b (by omega)
              rw [if_pos hbb, width_in hbb] at hk1
              obtain ⟨kb, hkb⟩ := Int.eq_ofNat_of_zero_le hk0
              obtain ⟨bc, bf, bl⟩ := block_facts hBl2
              have hkc := bc b
              rw [cellsOf_at (by rw [hlen]; omega), hkb] at hkc
              have h5 : ∀ i : Fin 5, 1 ≤ widL.getD i.val 0 ∧ widL.getD i.val 0 ≤ 16 := by decide
              obtain ⟨hw1, hw2⟩ := h5 ⟨b, by omega⟩
              simp only at hw1 hw2
              have hcap : capF (widL.getD b 0) = (cap (widL.getD b 0).toNat : Nat) := capF_in _ ⟨hw1, hw2⟩
              have hrl := rowL_len (widL.getD b 0).toNat
              have hcle := cap_le ⟨(widL.getD b 0).toNat, by omega⟩
              simp only at hcle
              rw [hrl] at hG1
              rw [hcap, hkb] at hk1
              have hsl := slopeR_pos t b (by omega)
              have hrs := Lib.hid (fun w => refSlope t b (by omega) w)
              have Hlev := Lib.hid (show lev t b li = ((kb : Int) + 1) * slopeR t b from by unfold lev; rw [hkb])
              have Hkb := Lib.hid hkb
              have Hcap := Lib.hid hcap
              have HGo2 := Lib.hid hgo2
              have HFit2 := Lib.hid (show FitL s c li from ⟨hlen, hin⟩)
              have HBut2 := Lib.hid hBut2
              have HBl2 := Lib.hid hBl2
              have Hbf := Lib.hid bf
              have Hbc := Lib.hid bc
              have hslm : 0 ≤ ((kb : Int) + 1) * slopeR t b ∧ ((kb : Int) + 1) * slopeR t b ≤ 33 * 64 := ⟨Int.mul_nonneg (by omega) (by omega), Int.le_trans (Int.mul_le_mul_of_nonneg_right (show (kb : Int) + 1 ≤ 33 by omega) (by omega)) (Int.mul_le_mul_of_nonneg_left hsl.2 (by omega))⟩
              generalize hsr : slopeR t b = sl at *
              generalize hlv : ((kb : Int) + 1) * sl = lvl at *
              have Hlv := Lib.hid hlv
              obtain ⟨hsl1, hsl2⟩ := hsl
              obtain ⟨hslm1, hslm2⟩ := hslm
              have hW64 : wrap64 (((kb : Int) + 1) * sl) = lvl := by rw [hlv]; exact IntWalk.wrap64_in _ (by omega)
              clear hG2 hlen hin hkb hcap hrl hgo2 hBut2 hBl2 bc bf hsr hlv h5 hbb
              generalize hcp : cap (widL.getD b 0).toNat = cp at *
              by_cases hfull : cp ≤ kb
              · have hfull' : (cp : Int) ≤ kb := by omega
                have D1 : decide ((cp : Int) ≤ kb) = true := decide_eq_true hfull'
                have D1' : decide (cp ≤ kb) = true := decide_eq_true hfull
                have D1'' : decide ((cp : Int) + 1 ≤ kb + 1) = true := decide_eq_true (by omega)
                go_wp2_with fail
                first | refine wp_region_grew_all2 (by kernel_rfl) (by kernel_rfl) ?_ | refine wp_region_grew_all (by kernel_rfl) (by kernel_rfl) ?_
                repeat (go_big_quiet_step (fail))
                refine wpQuiet_nil ?_
                rintro _ ⟨x, rfl⟩
                go_wp2
                go_roundw
                case rel => exact ⟨b + 1, li, by omega, by go_num, rfl, HFit2.out, (runI_skip hb (by rw [Hkb.out, Hcap.out]; omega)).symm.trans HGo2.out, HBut2.out.grew _, by rw [World.grew_block _ _ _ bl]; exact HBl2.out⟩
                case measure => simp [intOf]; omega
              · have hfull' : ¬ (cp : Int) ≤ kb := by omega
                have D1 : decide ((cp : Int) ≤ kb) = false := decide_eq_false hfull'
                have D1' : decide (cp ≤ kb) = false := decide_eq_false hfull
                have D1'' : decide ((cp : Int) + 1 ≤ kb + 1) = false := decide_eq_false (by omega)
                by_cases hlv2 : lvl = L
                · have D2 : (lvl != (L : Int)) = false := by simpa using hlv2
                  have Hfire := Lib.hid (show li.getD b 0 < capF (widL.getD b 0) ∧ lev t b li = L from ⟨by rw [Hkb.out, Hcap.out]; omega, by rw [Hlev.out]; exact hlv2⟩)
                  have hr0 := row_bits b (by omega) kb cp Hcap.out (by omega)
                  have hr1 := row_bits b (by omega) (kb + 1) cp Hcap.out (by omega)
                  have x0 := HG2.out kb (by rw [rowL_len, hcp]; omega)
                  have x1 := HG2.out (kb + 1) (by rw [rowL_len, hcp]; omega)
                  rw [hr0.1] at x0
                  rw [hr1.1] at x1
                  have Hmore := Lib.hid (show more c b li = c * (bitsF (widL.getD b 0) ((kb + 1 : Nat) : Int) - bitsF (widL.getD b 0) kb) from by unfold more; rw [Hkb.out]; push_cast; rfl)
                  have Htot := Lib.hid (total_inc HR.out HFit2.out b (by rw [HN.out]; exact hb') Hfire.out.1)
                  have hT := total_le (s := s) ⟨hcc1, hcc2⟩ li
                  obtain ⟨_, hr01, hr02⟩ := hr0
                  obtain ⟨_, hr11, hr12⟩ := hr1
                  generalize bitsF (widL.getD b 0) ((kb + 1 : Nat) : Int) = r1 at *
                  generalize bitsF (widL.getD b 0) (kb : Int) = r0 at *
                  have hm : -400 ≤ c * (r1 - r0) ∧ c * (r1 - r0) ≤ 400 := by
                    have : c = 1 ∨ c = 2 := by omega
                    rcases this with rfl | rfl <;> omega
                  generalize hmm : c * (r1 - r0) = mm at *
                  have hM64 : wrap64 (c * (r1 - r0)) = mm := by rw [hmm]; exact IntWalk.wrap64_in _ (by omega)
                  obtain ⟨hm1, hm2⟩ := hm
                  obtain ⟨hT1, hT2⟩ := hT
                  generalize hTT : totalF s c li = T at *
                  have HTT := Lib.hid hTT
                  clear hlv2 hmm hTT hcp
                  by_cases hbud : bud < T + mm
                  · have HEND := Lib.hid (show li = A from (runI_stop hb Hfire.out (by rw [Hmore.out]; exact hbud)).symm.trans HGo2.out)
                    have hBut2 := HBut2.out
                    obtain ⟨a0, a1, a2, a3, a4, hli⟩ := five HFit2.out.1
                    have HLI := Lib.hid hli
                    have i0 := Hbc.out 0
                    have i1 := Hbc.out 1
                    have i2 := Hbc.out 2
                    have i3 := Hbc.out 3
                    have i4 := Hbc.out 4
                    rw [hli] at i0 i1 i2 i3 i4
                    have q0 := (hBut2.cell B 0 b02 (by omega)).trans (HB0.out 0)
                    have q1 := (hBut2.cell B 1 b02 (by omega)).trans (HB0.out 1)
                    have q2 := (hBut2.cell B 2 b02 (by omega)).trans (HB0.out 2)
                    have q3 := (hBut2.cell B 3 b02 (by omega)).trans (HB0.out 3)
                    have q4 := (hBut2.cell B 4 b02 (by omega)).trans (HB0.out 4)
                    have f0 := (hBut2.frozen B 0 b02 (by omega)).trans (HB0F.out 0)
                    have f1 := (hBut2.frozen B 1 b02 (by omega)).trans (HB0F.out 1)
                    have f2 := (hBut2.frozen B 2 b02 (by omega)).trans (HB0F.out 2)
                    have f3 := (hBut2.frozen B 3 b02 (by omega)).trans (HB0F.out 3)
                    have f4 := (hBut2.frozen B 4 b02 (by omega)).trans (HB0F.out 4)
                    have HBW := Lib.hid (show Below B w W from HW0.out.trans (hBut2.toBelow (by omega) (by omega)))
                    have lBW : B < W.heap.size := by omega
                    simp only [cellsOf, List.map_cons, List.map_nil, List.getElem?_toArray, List.getElem?_cons_zero, List.getElem?_cons_succ] at i0 i1 i2 i3 i4 q0 q1 q2 q3 q4
                    clear hBut2 hli
                    go_wp2_with fail
                    first | refine wp_region_grew_all2 (by kernel_rfl) (by kernel_rfl) ?_ | refine wp_region_grew_all (by kernel_rfl) (by kernel_rfl) ?_
                    repeat (go_big_quiet_step (first | (go_at_call 85; exact Calls.grew_of (hrs.out _))))
                    refine wpQuiet_nil ?_
                    rintro _ ⟨x, rfl⟩
                    go_wp2_with fail
                    first | refine wp_region_grew_all2 (by kernel_rfl) (by kernel_rfl) ?_ | refine wp_region_grew_all (by kernel_rfl) (by kernel_rfl) ?_
                    repeat (go_big_quiet_step (fail))
                    refine wpQuiet_nil ?_
                    rintro _ ⟨x, rfl⟩
                    go_wp2
                    refine bodyPost_ret (v := _) (by simp [results, Tryd.results61, go_sem, lBW, q0, q1, q2, q3, q4]; rfl) rfl ⟨?_, ?_⟩
                    · rw [← HEND.out, HLI.out]; rfl
                    · rw [HBd.out]
                      have hbase := HBW.out
                      (repeat' (first | with_reducible (first | exact Below.refl _ _ | assumption | refine Below.alloc ?_ ?_ _ | refine below_grew ?_ ?_ _ | refine Below.setCell ?_ ?_ _ | refine Below.drew ?_ | refine below_drewN ?_ _) | omega | (simp; done) | (simp; omega)))
                  · have HGO3 := Lib.hid ((runI_go hb Hfire.out (by rw [Hmore.out]; exact hbud)).symm.trans HGo2.out)
                    have bf0 := Hbf.out b
                    go_wp2_with fail
                    first | refine wp_region_grew_all2 (by kernel_rfl) (by kernel_rfl) ?_ | refine wp_region_grew_all (by kernel_rfl) (by kernel_rfl) ?_
                    repeat (go_big_quiet_step (first | (go_at_call 85; exact Calls.grew_of (hrs.out _))))
                    refine wpQuiet_nil ?_
                    rintro _ ⟨x, rfl⟩
                    go_wp2_with fail
                    first | refine wp_region_grew_all2 (by kernel_rfl) (by kernel_rfl) ?_ | refine wp_region_grew_all (by kernel_rfl) (by kernel_rfl) ?_
                    repeat (go_big_quiet_step (fail))
                    refine wpQuiet_nil ?_
                    rintro _ ⟨x, rfl⟩
                    go_wp2
                    go_roundw
                    case rel =>
                      have hTi : totalF s c (inc b li) = T + mm := by rw [Htot.out, Hmore.out]
                      have hinc : inc b li = li.set b ((kb : Int) + 1) := by unfold inc; rw [Hkb.out]
                      refine ⟨b + 1, inc b li, by omega, by go_num, by rw [hTi], (fit_inc HFit2.out b (by rw [HN.out]; exact hb') Hfire.out.1).1, ?_, (HBut2.out.setCell b none _).grew _, ?_⟩
                      · rw [hTi, ← Hmore.out]; exact HGO3.out
                      · rw [World.grew_block _ _ _ (by simpa using bl), setCell_own _ _ _ _ _ _ _ HBl2.out, cellsOf_set, hinc]
                    case measure => simp [intOf]; omega
                · have D2 : (lvl != (L : Int)) = true := by simpa using hlv2
                  have Hlv2 := Lib.hid hlv2
                  clear hlv2
                  go_wp2_with fail
                  first | refine wp_region_grew_all2 (by kernel_rfl) (by kernel_rfl) ?_ | refine wp_region_grew_all (by kernel_rfl) (by kernel_rfl) ?_
                  repeat (go_big_quiet_step (first | (go_at_call 85; exact Calls.grew_of (hrs.out _))))
                  refine wpQuiet_nil ?_
                  rintro _ ⟨x, rfl⟩
                  go_wp2
                  go_roundw
                  case rel => exact ⟨b + 1, li, by omega, by go_num, rfl, HFit2.out, (runI_skip hb (by rw [Hlev.out]; exact fun h => Hlv2.out h.2)).symm.trans HGo2.out, HBut2.out.grew _, by rw [World.grew_block _ _ _ bl]; exact HBl2.out⟩
                  case measure => simp [intOf]; omega
            · obtain rfl : b = k := by omega
              have HGo2 := Lib.hid hgo2
              have HFit2 := Lib.hid hfit2
              have HBut2 := Lib.hid hBut2
              have HBl2 := Lib.hid hBl2
              clear hgo2 hfit2 hBut2 hBl2
              go_wp2
              go_roundw
              case rel =>
                refine ⟨L + 1, li, by omega, by omega, by go_num, rfl, HFit2.out, ?_, HBut2.out, HBl2.out⟩
                by_cases e : L < 3000
                · rw [if_pos (by omega)]
                  exact (runI_next e).symm.trans HGo2.out
                · obtain rfl : L = 3000 := by omega
                  rw [if_neg (by omega)]
                  exact runI_last.symm.trans HGo2.out
              case measure => simp [intOf]; omega
        · obtain ⟨W, rfl⟩ : ∃ W : World, W = wr := ⟨_, rfl⟩
          have HEND := Lib.hid ((show (if L ≤ 3000 then runI t bud c k (FF k L 0) L 0 l (totalF s c l) = A else l = A) = (l = A) from if_neg hLt) ▸ HGo.out)
          have HBut2 := HBut
          have HFit2 := HFit
          obtain ⟨bc, bf, bl⟩ := block_facts HBl.out
          have Hbc := Lib.hid bc
          clear bc bf HGo
          have hWs := HBut.out.size
          have hBut2 := HBut2.out
          obtain ⟨a0, a1, a2, a3, a4, hli⟩ := five HFit2.out.1
          have HLI := Lib.hid hli
          have i0 := Hbc.out 0
          have i1 := Hbc.out 1
          have i2 := Hbc.out 2
          have i3 := Hbc.out 3
          have i4 := Hbc.out 4
          rw [hli] at i0 i1 i2 i3 i4
          have q0 := (hBut2.cell B 0 b02 (by omega)).trans (HB0.out 0)
          have q1 := (hBut2.cell B 1 b02 (by omega)).trans (HB0.out 1)
          have q2 := (hBut2.cell B 2 b02 (by omega)).trans (HB0.out 2)
          have q3 := (hBut2.cell B 3 b02 (by omega)).trans (HB0.out 3)
          have q4 := (hBut2.cell B 4 b02 (by omega)).trans (HB0.out 4)
          have f0 := (hBut2.frozen B 0 b02 (by omega)).trans (HB0F.out 0)
          have f1 := (hBut2.frozen B 1 b02 (by omega)).trans (HB0F.out 1)
          have f2 := (hBut2.frozen B 2 b02 (by omega)).trans (HB0F.out 2)
          have f3 := (hBut2.frozen B 3 b02 (by omega)).trans (HB0F.out 3)
          have f4 := (hBut2.frozen B 4 b02 (by omega)).trans (HB0F.out 4)
          have HBW := Lib.hid (show Below B w W from HW0.out.trans (hBut2.toBelow (by omega) (by omega)))
          have lBW : B < W.heap.size := by omega
          simp only [cellsOf, List.map_cons, List.map_nil, List.getElem?_toArray, List.getElem?_cons_zero, List.getElem?_cons_succ] at i0 i1 i2 i3 i4 q0 q1 q2 q3 q4
          clear hBut2 hli
          go_wp2
          refine bodyPost_ret (v := _) (by simp [results, Tryd.results61, go_sem, lBW, q0, q1, q2, q3, q4]; rfl) rfl ⟨?_, ?_⟩
          · rw [← HEND.out, HLI.out]; rfl
          · rw [HBd.out]
            have hbase := HBW.out
            (repeat' (first | with_reducible (first | exact Below.refl _ _ | assumption | refine Below.alloc ?_ ?_ _ | refine below_grew ?_ ?_ _ | refine Below.setCell ?_ ?_ _ | refine Below.drew ?_ | refine below_drewN ?_ _) | omega | (simp; done) | (simp; omega)))
end Go.Proofs.YtbcdnbbpkikppaaDoor
end

section
namespace Go.Vec
set_option linter.unusedVariables false
/-- A number's magnitude; the numbers in order; a number's place. -/
def mag (a : Int) : Int := max a (-a)
def nth (p : Nat) : Int := if p % 2 = 1 then ((p + 1) / 2 : Nat) else -((p / 2 : Nat) : Int)
def place (a : Int) : Nat := if 0 < a then (2 * a - 1).toNat else (-2 * a).toNat
theorem nth_place (a : Int) : nth (place a) = a := by unfold nth place; split <;> split <;> omega
theorem place_nth (p : Nat) : place (nth p) = p := by unfold nth place; split <;> split <;> omega
theorem mag_nth (p : Nat) : mag (nth p) = ((p + 1) / 2 : Nat) := by unfold mag nth; split <;> omega
theorem mag_nn (a : Int) : 0 ≤ mag a := by unfold mag; omega
theorem place_le (a k : Int) (h : mag a ≤ k) : (place a : Int) ≤ 2 * k := by unfold mag at h; unfold place; split <;> omega
/-- How many vectors of n further numbers go ahead: those that begin with one of the first p numbers. -/
def ah (n k : Int) : Nat → Int
  | 0 => 0
  | p + 1 => ah n k p + vF n (k - mag (nth p))
theorem ah_step (n k : Int) (p : Nat) : ah n k p ≤ ah n k (p + 1) := by
  have := vF_bd n (k - mag (nth p))
  show ah n k p ≤ ah n k p + vF n (k - mag (nth p))
  omega
theorem ah_mono (n k : Int) (p q : Nat) (h : p ≤ q) : ah n k p ≤ ah n k q := by
  induction q with
  | zero => rw [Nat.le_zero.1 h]; omega
  | succ q ih =>
    by_cases e : p = q + 1
    · rw [e]; omega
    · have := ih (by omega); have := ah_step n k q; omega
theorem ah_nn (n k : Int) (p : Nat) : 0 ≤ ah n k p := ah_mono n k 0 p (by omega)
/-- The same in plain numbers. -/
def ahN (n k : Nat) : Nat → Nat
  | 0 => 0
  | p + 1 => ahN n k p + (if (p + 1) / 2 ≤ k then v n (k - (p + 1) / 2) else 0)
theorem ah_ahN (n k : Nat) (hn : n ≤ 16) (hk : k ≤ 32) (p : Nat) : ah n k p = (ahN n k p : Nat) := by
  induction p with
  | zero => rfl
  | succ p ih =>
    unfold ah ahN
    rw [ih, mag_nth]
    unfold vF
    by_cases h : (p + 1) / 2 ≤ k
    · rw [if_pos h, if_pos (by omega)]
      rw [show ((k : Int) - ((p + 1) / 2 : Nat)).toNat = k - (p + 1) / 2 by omega]
      simp
    · rw [if_neg h, if_neg (by omega)]; simp
theorem ahN_all : ∀ n : Fin 16, ∀ k : Fin 33, ahN n.val k.val (2 * k.val + 1) = v (n.val + 1) k.val := by decide +kernel
theorem ah_all (n : Nat) (k : Int) (hn : n < 16) (hk : 0 ≤ k ∧ k ≤ 32) : ah n k (2 * k.toNat + 1) = vF ((n : Int) + 1) k := by
  obtain ⟨K, rfl⟩ := Int.eq_ofNat_of_zero_le hk.1
  have h := ahN_all ⟨n, hn⟩ ⟨K, by omega⟩
  simp only at h
  rw [ah_ahN n K (by omega) (by omega), Int.toNat_natCast, h]
  unfold vF
  rw [if_pos (by omega), Int.toNat_natCast]
  rw [show ((n : Int) + 1).toNat = n + 1 by omega]
/-- The first number of the vector of a rank: the last place with no more than i ahead. -/
def fnd (n k i : Int) : Nat → Nat → Nat
  | 0, p => p
  | f + 1, p => if ah n k (p + 1) ≤ i then fnd n k i f (p + 1) else p
theorem fnd_spec (n k i : Int) (f p : Nat) (h0 : ah n k p ≤ i) (h1 : i < ah n k (p + f)) : ah n k (fnd n k i f p) ≤ i ∧ i < ah n k (fnd n k i f p + 1) ∧ fnd n k i f p < p + f := by
  induction f generalizing p with
  | zero => rw [Nat.add_zero] at h1; omega
  | succ f ih =>
    unfold fnd
    split
    · rename_i h
      obtain ⟨a, b, c⟩ := ih (p + 1) h (by rw [show p + 1 + f = p + (f + 1) by omega]; exact h1)
      exact ⟨a, b, by omega⟩
    · exact ⟨h0, by omega, by omega⟩
def fst (n k i : Int) : Nat := fnd n k i (2 * k.toNat + 1) 0
theorem fst_spec (n : Nat) (k i : Int) (hn : n < 16) (hk : 0 ≤ k ∧ k ≤ 32) (h0 : 0 ≤ i) (h1 : i < vF ((n : Int) + 1) k) : ah n k (fst n k i) ≤ i ∧ i < ah n k (fst n k i + 1) ∧ fst n k i ≤ 2 * k.toNat := by
  have := fnd_spec n k i (2 * k.toNat + 1) 0 h0 (by rw [Nat.zero_add, ah_all n k hn hk]; exact h1)
  unfold fst
  exact ⟨this.1, this.2.1, by omega⟩
theorem fst_eq (n k i : Int) (p q : Nat) (h1 : ah n k p ≤ i) (h2 : i < ah n k (p + 1)) (h3 : ah n k q ≤ i) (h4 : i < ah n k (q + 1)) : p = q := by
  by_cases e : p < q
  · have := ah_mono n k (p + 1) q e; omega
  · by_cases e' : q < p
    · have := ah_mono n k (q + 1) p e'; omega
    · omega
/-- The pulses of a vector; its rank; the vector of a rank. -/
def pul : List Int → Int
  | [] => 0
  | a :: l => mag a + pul l
def rankL : List Int → Int
  | [] => 0
  | a :: l => ah l.length (mag a + pul l) (place a) + rankL l
def unk : Nat → Int → Int → List Int
  | 0, _, _ => []
  | n + 1, k, i => nth (fst n k i) :: unk n (k - mag (nth (fst n k i))) (i - ah n k (fst n k i))
theorem pul_nn : ∀ l, 0 ≤ pul l
  | [] => by unfold pul; omega
  | a :: l => by have := pul_nn l; have := mag_nn a; unfold pul; omega
theorem vF_one (n : Nat) (k : Int) (hn : n ≤ 16) (p : Nat) (h : ah n k p < ah n k (p + 1)) : 0 ≤ k - mag (nth p) ∧ k - mag (nth p) ≤ 32 := by
  have h : ah n k p < ah n k p + vF n (k - mag (nth p)) := h
  by_cases e : 0 ≤ k - mag (nth p) ∧ k - mag (nth p) ≤ 32
  · exact e
  · rw [vF_out _ _ (by omega)] at h; omega
theorem unk_len : ∀ n k i, (unk n k i).length = n
  | 0, _, _ => rfl
  | n + 1, k, i => by unfold unk; rw [List.length_cons, unk_len n]
theorem rank_lt : ∀ l : List Int, l.length ≤ 16 → pul l ≤ 32 → 0 ≤ rankL l ∧ rankL l < vF l.length (pul l)
  | [], _, _ => by
    unfold rankL pul
    have := vF_zero ((List.nil : List Int).length : Nat) (by simp)
    omega
  | a :: l, hn, hp => by
    rw [List.length_cons] at hn
    have hp' : mag a + pul l ≤ 32 := hp
    have hm := mag_nn a
    have hpl := pul_nn l
    obtain ⟨h1, h2⟩ := rank_lt l (by omega) (by omega)
    have h3 := ah_nn l.length (mag a + pul l) (place a)
    have h4 := place_le a (mag a + pul l) (by omega)
    have h5 := ah_mono l.length (mag a + pul l) (place a + 1) (2 * (mag a + pul l).toNat + 1) (by omega)
    rw [ah_all l.length _ (by omega) (by omega)] at h5
    have h6 : ah l.length (mag a + pul l) (place a + 1) = ah l.length (mag a + pul l) (place a) + vF l.length (pul l) := by
      show ah l.length (mag a + pul l) (place a) + vF l.length (mag a + pul l - mag (nth (place a))) = _
      rw [nth_place, show mag a + pul l - mag a = pul l by omega]
    show 0 ≤ ah l.length (mag a + pul l) (place a) + rankL l ∧ ah l.length (mag a + pul l) (place a) + rankL l < vF ((l.length + 1 : Nat) : Int) (mag a + pul l)
    rw [Int.natCast_add]
    refine ⟨by omega, ?_⟩
    show ah l.length (mag a + pul l) (place a) + rankL l < vF ((l.length : Int) + 1) (mag a + pul l)
    omega
theorem unk_rank : ∀ l : List Int, l.length ≤ 16 → pul l ≤ 32 → unk l.length (pul l) (rankL l) = l
  | [], _, _ => rfl
  | a :: l, hn, hp => by
    rw [List.length_cons] at hn
    have hp' : mag a + pul l ≤ 32 := hp
    have hm := mag_nn a
    have hpl := pul_nn l
    obtain ⟨h1, h2⟩ := rank_lt l (by omega) (by omega)
    have hrl := rank_lt (a :: l) (by rw [List.length_cons]; omega) hp
    have hR : rankL (a :: l) = ah l.length (mag a + pul l) (place a) + rankL l := rfl
    have hP : pul (a :: l) = mag a + pul l := rfl
    have h6 : ah l.length (mag a + pul l) (place a + 1) = ah l.length (mag a + pul l) (place a) + vF l.length (pul l) := by
      show ah l.length (mag a + pul l) (place a) + vF l.length (mag a + pul l - mag (nth (place a))) = _
      rw [nth_place, show mag a + pul l - mag a = pul l by omega]
    obtain ⟨x, y, z⟩ := fst_spec l.length (mag a + pul l) (rankL (a :: l)) (by omega) (by omega) hrl.1 (by rw [← hP]; simpa using hrl.2)
    have hf : fst l.length (mag a + pul l) (rankL (a :: l)) = place a := fst_eq _ _ _ _ _ x y (by omega) (by omega)
    rw [List.length_cons, hP]
    unfold unk
    rw [hf, nth_place, hR, show mag a + pul l - mag a = pul l by omega, show ah l.length (mag a + pul l) (place a) + rankL l - ah l.length (mag a + pul l) (place a) = rankL l by omega, unk_rank l (by omega) (by omega)]
theorem nth_next (p : Nat) : nth (p + 1) = if 0 < nth p then -nth p else 1 - nth p := by unfold nth; split <;> split <;> split <;> omega
theorem nth_eq (p : Nat) (a : Int) : nth p = a ↔ p = place a := ⟨fun h => by rw [← h, place_nth], fun h => by rw [h, nth_place]⟩
theorem ah_more (n k : Int) (P p : Nat) : ah n k (min P (p + 1)) = ah n k (min P p) + if p < P then vF n (k - mag (nth p)) else 0 := by
  by_cases h : p < P
  · rw [if_pos h, Nat.min_eq_right (by omega), Nat.min_eq_right (by omega)]; rfl
  · rw [if_neg h, Nat.min_eq_left (by omega), Nat.min_eq_left (by omega), Int.add_zero]
/-- The quick table's 'ahead': by sums. -/
def sm' (n : Nat) : Nat → Nat
  | 0 => 0
  | k + 1 => sm' n k + v n k
theorem sm_mono' (n : Nat) (j k : Nat) (h : j ≤ k) : sm' n j ≤ sm' n k := by
  induction k with
  | zero => rw [Nat.le_zero.1 h]; exact Nat.le_refl _
  | succ k ih =>
    by_cases e : j = k + 1
    · rw [e]; exact Nat.le_refl _
    · have := ih (by omega)
      show sm' n j ≤ sm' n k + v n k
      omega
theorem ah_sums (n k : Nat) (hn : n ≤ 16) (hk : k ≤ 32) (m : Nat) (hm : 1 ≤ m ∧ m ≤ k) : ah n k (2 * m - 1) = (v n k : Int) + 2 * ((sm' n k : Int) - (sm' n (k - m + 1) : Int)) := by
  obtain ⟨m0, hm1⟩ := hm
  induction m with
  | zero => omega
  | succ m ih =>
    by_cases e : m = 0
    · subst e
      rw [show 2 * (0 + 1) - 1 = 0 + 1 from rfl, show k - (0 + 1) + 1 = k by omega]
      show ah n k 0 + vF n (k - mag (nth 0)) = _
      rw [mag_nth]
      unfold ah vF
      rw [if_pos (by omega)]
      rw [show ((n : Int)).toNat = n by omega, show ((k : Int) - ((0 + 1) / 2 : Nat)).toNat = k by omega]
      omega
    · have h := ih (by omega) (by omega)
      have e1 : sm' n (k - m + 1) = sm' n (k - (m + 1) + 1) + v n (k - m) := by
        rw [show k - m + 1 = (k - (m + 1) + 1) + 1 by omega]
        show sm' n (k - (m + 1) + 1) + v n (k - (m + 1) + 1) = _
        rw [show k - (m + 1) + 1 = k - m by omega]
      rw [show 2 * (m + 1) - 1 = (2 * m - 1) + 1 + 1 by omega]
      show ah n k (2 * m - 1) + vF n (k - mag (nth (2 * m - 1))) + vF n (k - mag (nth (2 * m - 1 + 1))) = _
      rw [h, mag_nth, mag_nth, show (2 * m - 1 + 1) / 2 = m by omega, show (2 * m - 1 + 1 + 1) / 2 = m by omega]
      unfold vF
      rw [if_pos (by omega), show ((n : Int)).toNat = n by omega, show ((k : Int) - (m : Nat)).toNat = k - m by omega]
      omega
/-- The first of a rank, found by magnitudes: below 2m - 1 none, and then one of two. -/
theorem fst_zero (n : Nat) (k i : Int) (hn : n < 16) (hk : 0 ≤ k ∧ k ≤ 32) (h0 : 0 ≤ i) (h1 : i < vF ((n : Int) + 1) k) (h : i < vF n k) : fst n k i = 0 := by
  obtain ⟨a, b, c⟩ := fst_spec n k i hn hk h0 h1
  refine fst_eq n k i _ _ a b (by show (0 : Int) ≤ i; exact h0) ?_
  show i < ah n k 0 + vF n (k - mag (nth 0))
  rw [mag_nth]
  show i < 0 + vF n (k - ((0 + 1) / 2 : Nat))
  rw [show (k - ((0 + 1) / 2 : Nat) : Int) = k by omega]
  omega
theorem nth_odd (m : Nat) (h : 1 ≤ m) : nth (2 * m - 1) = m := by unfold nth; rw [if_pos (by omega)]; omega
theorem nth_even (m : Nat) : nth (2 * m) = -(m : Int) := by unfold nth; rw [if_neg (by omega)]; omega
theorem fst_pos (n : Nat) (k i : Int) (hn : n < 16) (hk : 0 ≤ k ∧ k ≤ 32) (h0 : 0 ≤ i) (h1 : i < vF ((n : Int) + 1) k) (m : Nat) (hm : 1 ≤ m) (h : ah n k (2 * m - 1) ≤ i) (h2 : i < ah n k (2 * m - 1) + vF n (k - m)) : fst n k i = 2 * m - 1 := by
  obtain ⟨a, b, c⟩ := fst_spec n k i hn hk h0 h1
  refine fst_eq n k i _ _ a b h ?_
  show i < ah n k (2 * m - 1) + vF n (k - mag (nth (2 * m - 1)))
  rw [mag_nth, show (2 * m - 1 + 1) / 2 = m by omega]
  exact h2
theorem ah_two (n k : Int) (m : Nat) (hm : 1 ≤ m) : ah n k (2 * m) = ah n k (2 * m - 1) + vF n (k - m) ∧ ah n k (2 * m + 1) = ah n k (2 * m - 1) + vF n (k - m) + vF n (k - m) := by
  have e : ah n k (2 * m) = ah n k (2 * m - 1) + vF n (k - m) := by
    rw [show 2 * m = (2 * m - 1) + 1 by omega]
    show ah n k (2 * m - 1) + vF n (k - mag (nth (2 * m - 1))) = _
    rw [mag_nth, show (2 * m - 1 + 1) / 2 = m by omega]
    simp
  refine ⟨e, ?_⟩
  rw [← e]
  show ah n k (2 * m) + vF n (k - mag (nth (2 * m))) = _
  rw [mag_nth, show (2 * m + 1) / 2 = m by omega]
theorem fst_neg (n : Nat) (k i : Int) (hn : n < 16) (hk : 0 ≤ k ∧ k ≤ 32) (h0 : 0 ≤ i) (h1 : i < vF ((n : Int) + 1) k) (m : Nat) (hm : 1 ≤ m) (h : ah n k (2 * m - 1) + vF n (k - m) ≤ i) (h2 : i < ah n k (2 * m + 1)) : fst n k i = 2 * m := by
  obtain ⟨a, b, c⟩ := fst_spec n k i hn hk h0 h1
  exact fst_eq n k i _ _ a b (by rw [(ah_two n k m hm).1]; exact h) h2
end Go.Vec
end

section
namespace Go
open Go.RowKit
/-- Of what was there nothing has changed but the blocks listed. -/
structure Chg (l : List Nat) (w w' : World) : Prop where
  os : w'.os = w.os
  tape : w'.tape = w.tape
  output : w'.output = w.output
  size : w.heap.size ≤ w'.heap.size
  block : ∀ k, k < w.heap.size → k ∉ l → w'.heap[k]? = w.heap[k]?
theorem Chg.refl (l : List Nat) (w : World) : Chg l w w := ⟨rfl, rfl, rfl, Nat.le_refl _, fun _ _ _ => rfl⟩
theorem Chg.trans {l : List Nat} {a b c : World} (h : Chg l a b) (k : Chg l b c) : Chg l a c :=
  ⟨k.os.trans h.os, k.tape.trans h.tape, k.output.trans h.output, Nat.le_trans h.size k.size, fun i hi hn => (k.block i (Nat.lt_of_lt_of_le hi h.size) hn).trans (h.block i hi hn)⟩
theorem Chg.mono {l l' : List Nat} {a b : World} (h : Chg l a b) (hs : ∀ k, k ∈ l → k ∈ l') : Chg l' a b :=
  ⟨h.os, h.tape, h.output, h.size, fun i hi hn => h.block i hi (fun hm => hn (hs i hm))⟩
theorem Chg.of_below {l : List Nat} {w w' : World} (h : Below w.heap.size w w') : Chg l w w' := ⟨h.os, h.tape, h.output, h.size, fun k hk _ => h.block k hk⟩
theorem Chg.below {l : List Nat} {w a b : World} (h : Chg l w a) (hb : Below a.heap.size a b) : Chg l w b := h.trans (Chg.of_below hb)
theorem Chg.toBelow {l : List Nat} {w w' : World} (h : Chg l w w') {B : Nat} (hB : B ≤ w.heap.size) (hl : ∀ k, k ∈ l → B ≤ k) : Below B w w' :=
  ⟨h.os, h.tape, h.output, h.size, fun k hk => h.block k (by omega) (fun hm => by have := hl k hm; omega)⟩
/-- Blocks that are new to the first world don't count. -/
theorem Chg.drop {l l' : List Nat} {w a b : World} (h : Chg l w a) (k : Chg l' a b) (hl : ∀ i, i ∈ l' → i ∈ l ∨ w.heap.size ≤ i) : Chg l w b :=
  ⟨k.os.trans h.os, k.tape.trans h.tape, k.output.trans h.output, Nat.le_trans h.size k.size, fun i hi hn => (k.block i (Nat.lt_of_lt_of_le hi h.size) (fun hm => by
    rcases hl i hm with h1 | h1
    · exact hn h1
    · omega)).trans (h.block i hi hn)⟩
theorem Chg.setCell {l : List Nat} {w a : World} (h : Chg l w a) {b i : Nat} {s : Option Nat} (v : Value) (hb : b ∈ l) : Chg l w (a.setCell ⟨b, i, s⟩ v) :=
  ⟨h.os, h.tape, h.output, by simpa using h.size, fun k hk hn => by
    refine Eq.trans ?_ (h.block k hk hn)
    show (a.heap.modify b _)[k]? = _
    rw [Array.getElem?_modify, if_neg (fun e => hn (by rw [← e]; exact hb))]⟩
theorem Chg.alloc {l : List Nat} {w a : World} (h : Chg l w a) (o : Obj) : Chg l w (a.alloc o) := h.below ((Below.refl _ _).alloc (Nat.le_refl _) o)
theorem Chg.grew {l : List Nat} {w a : World} (h : Chg l w a) (x : Grown.By) : Chg l w (a.grew x) := h.below (below_grew (Below.refl _ _) (Nat.le_refl _) x)
theorem Chg.drew {l : List Nat} {w a : World} (h : Chg l w a) : Chg l w a.drew := ⟨h.os, h.tape, h.output, h.size, h.block⟩
theorem Chg.drewN {l : List Nat} {w a : World} (h : Chg l w a) (n : Nat) : Chg l w (a.drewN n) := ⟨h.os, h.tape, h.output, h.size, h.block⟩
theorem Chg.cell {l : List Nat} {w w' : World} (h : Chg l w w') (b o : Nat) (hb : b < w.heap.size) (hn : b ∉ l) : w'.cell? ⟨b, o, none⟩ = w.cell? ⟨b, o, none⟩ := by
  unfold World.cell?; rw [h.block b hb hn]
theorem Chg.frozen {l : List Nat} {w w' : World} (h : Chg l w w') (b o : Nat) (hb : b < w.heap.size) (hn : b ∉ l) : w'.frozen? ⟨b, o, none⟩ = w.frozen? ⟨b, o, none⟩ := by
  unfold World.frozen?; rw [h.block b hb hn]
theorem Chg.keepB {l : List Nat} {w w' : World} (h : Chg l w w') {b : Nat} {o : Obj} (hb : w.heap[b]? = some o) (hn : b ∉ l) : w'.heap[b]? = some o :=
  (h.block b (Array.getElem?_eq_some_iff.1 hb).1 hn).trans hb
end Go
namespace Go.Proofs.YtbcdnbbpkikppaaDoor
open Go.RowKit
theorem _root_.Go.Chg.setCells {l : List Nat} {w a : World} (h : Chg l w a) {b i : Nat} (vs : List Value) (hb : b ∈ l) : Chg l w (a.setCells b i vs) := by
  have ho := only_setCells a b i vs
  exact ⟨ho.os.trans h.os, ho.tape.trans h.tape, ho.output.trans h.output, by rw [ho.size]; exact h.size, fun k hk hn => (ho.block k (fun e => hn (by first | (rw [e]; exact hb) | (rw [← e]; exact hb)))).trans (h.block k hk hn)⟩
end Go.Proofs.YtbcdnbbpkikppaaDoor
end

section
namespace Go.Proofs.YtbcdnbbpkikppaaDoor
open Go.RowKit
set_option linter.unusedSimpArgs false
set_option linter.unusedVariables false
theorem gate_ld {P : Program} {ops : Array Oper} {rest : List Oper} {o : Oper} {a : Act} {w : World} {Q : Exit → Act → World → Prop} (ty : TypeId) (x : Operand) (ho : o.op = .load ty x) (h : wpList P ops Q (o :: rest) a w) : wpList P ops Q (o :: rest) a w := h
theorem build_to_g {P : Program} {ops : Array Oper} {rest : List Oper} {o : Oper} {a : Act} {w : World} {Q : Exit → Act → World → Prop} (hw : Region.wanted o (yielded ops a.tmps) = true) (t : TypeId) (parts : Array (Nat × Operand)) (ho : o.op = .build t parts) (cells : Array Value)
    (hb : P.built t (parts.map fun (i, x) => (i, a.eval x)).toList = some cells)
    (h : wpList P ops Q rest (a.put o.dst (.agg cells)) w) : wpList P ops Q (o :: rest) a w := by
  unfold wpList
  rw [if_pos hw]
  exact .inl (wp_build t parts ho (by rw [hb]; rfl) (by rw [hb]; exact h))
def av (N : Nat) (F : Nat → Value) : Array Value := ((List.range N).map F).toArray
def updV (F : Nat → Value) (i : Nat) (v : Value) : Nat → Value := fun j => if j = i then v else F j
theorem av_size (N : Nat) (F : Nat → Value) : (av N F).size = N := by simp [av]
theorem av_get (N : Nat) (F : Nat → Value) (i : Nat) (h : i < N) : (av N F)[i]? = some (F i) := by simp [av, h]
theorem av_ext (N : Nat) (F G : Nat → Value) (h : ∀ i, i < N → F i = G i) : av N F = av N G := by
  unfold av
  congr 1
  apply List.map_congr_left
  intro i hi
  exact h i (by simpa using hi)
theorem av_set (N : Nat) (F : Nat → Value) (i : Nat) (h : i < N) (v : Value) : (av N F).setIfInBounds i v = av N (updV F i v) := by
  apply Array.ext
  · simp [av]
  · intro j h1 h2
    have hj : j < N := by simpa [av] using h2
    rw [Array.getElem_setIfInBounds (by simpa [av] using hj)]
    have e1 : (av N (updV F i v))[j] = updV F i v j := by simp [av]
    rw [e1]
    unfold updV
    by_cases e : i = j
    · subst e; rw [if_pos rfl, if_pos rfl]
    · rw [if_neg e, if_neg (fun h => e h.symm)]
      simp [av]
theorem av_toList (N : Nat) (F : Nat → Value) : (av N F).toList = (List.range N).map F := by simp [av]
abbrev Bv (b : Nat) (T : TypeId) (N : Nat) (F : Nat → Value) (w : World) : Prop := w.heap[b]? = some (.cells (av N F) T (0, 0))
theorem Bv.cell {b T N F} {w : World} (h : Bv b T N F w) (i : Nat) (hi : i < N) : w.cell? ⟨b, i, none⟩ = some (F i) := by rw [(block_facts h).1 i, av_get _ _ _ hi]
theorem Bv.set {b T N F} {w : World} (h : Bv b T N F w) (i : Nat) (hi : i < N) (v : Value) : Bv b T N (updV F i v) (w.setCell ⟨b, i, none⟩ v) := by
  have := setCell_own w b i _ _ _ v h
  rw [av_set N F i hi v] at this
  exact this
theorem Bv.ext {b T N F G} {w : World} (h : Bv b T N F w) (he : ∀ i, i < N → F i = G i) : Bv b T N G w := by
  unfold Bv at *; rw [← av_ext N F G he]; exact h
/-- A frame's cell: two flags, then whole numbers. -/
def fcell (j : Nat) (x : Int) : Value := if j < 2 then .bool (x != 0) else .int .i64 x
theorem fcell_int (j : Nat) (hj : ¬ j < 2) (x : Int) : fcell j x = .int .i64 x := by unfold fcell; rw [if_neg hj]
end Go.Proofs.YtbcdnbbpkikppaaDoor
end

section
namespace Go.Proofs.YtbcdnbbpkikppaaDoor
open Go.RowKit Go.BigFrame Go.Vec
set_option linter.unusedSimpArgs false
set_option linter.unusedVariables false
theorem sm_eq (n : Nat) : ∀ k, sm n k = sm' n k
  | 0 => rfl
  | k + 1 => by show sm n k + v n k = sm' n k + v n k; rw [sm_eq n k]
theorem TableOK.cell {b : Nat} {w : World} (h : TableOK b w) (n j : Nat) (hn : n < 17) (hj : j < 67) : w.cell? ⟨b, n * 67 + j, none⟩ = some (.int .u64 (tabG n j : Nat)) := by
  obtain ⟨cs, hc, hS⟩ := h
  have h1 := hS.done n j hn hj (by unfold DO; omega)
  simp [World.cell?, hc, h1]
theorem TableOK.vcell {b : Nat} {w : World} (h : TableOK b w) (n k : Nat) (hn : n < 17) (hk : k < 33) : w.cell? ⟨b, n * 67 + k, none⟩ = some (.int .u64 (vF n k)) := by
  rw [h.cell n k hn (by omega)]
  unfold tabG vF
  rw [if_pos hk, if_pos (by omega)]
  simp
theorem TableOK.chg {b : Nat} {l : List Nat} {w w' : World} (h : TableOK b w) (hc : Chg l w w') (hb : b ∉ l) : TableOK b w' := by
  obtain ⟨cs, h1, h2⟩ := h
  exact ⟨cs, hc.keepB h1 hb, h2⟩
theorem TableOK.lt {b : Nat} {w : World} (h : TableOK b w) : b < w.heap.size := by
  obtain ⟨cs, h1, _⟩ := h
  exact (Array.getElem?_eq_some_iff.1 h1).1
set_option maxHeartbeats 2000000 in
set_option maxRecDepth 100000 in
theorem rowAhead (b n k m : Nat) (hn : n < 17) (hk : k < 33) (hm : 1 ≤ m) (hmk : m ≤ k) (w : World) (hT : TableOK b w) :
    Calls Tryd.prog 170 #[.pointer (some ⟨b, n * 67, none⟩), .int .i64 k, .int .i64 m] w fun e w' => e = .returned (.int .u64 (ah n k (2 * m - 1))) ∧ Below w.heap.size w w' := by
  have h1 := hT.vcell n k hn hk
  have h2 := hT.cell n (33 + k) hn (by omega)
  have h3 := hT.cell n (33 + (k - m + 1)) hn (by omega)
  have b2 := tabG_le ⟨n, hn⟩ ⟨33 + k, by omega⟩
  have b3 := tabG_le ⟨n, hn⟩ ⟨33 + (k - m + 1), by omega⟩
  have b1 := vF_bd n k
  have hs := ah_sums n k (by omega) (by omega) m ⟨hm, hmk⟩
  have e2 : tabG n (33 + k) = sm' n k := by unfold tabG; rw [if_neg (by omega), show 33 + k - 33 = k by omega, sm_eq]
  have e3 : tabG n (33 + (k - m + 1)) = sm' n (k - m + 1) := by unfold tabG; rw [if_neg (by omega), show 33 + (k - m + 1) - 33 = k - m + 1 by omega, sm_eq]
  have hmo := sm_mono' n (k - m + 1) k (by omega)
  have ev : (v n k : Int) = vF n k := by unfold vF; rw [if_pos (by omega)]; simp
  simp only at b2 b3
  rw [e2] at h2 b2
  rw [e3] at h3 b3
  rw [ev] at hs
  rw [← Nat.add_assoc] at h2 h3
  have hw : IntKind.i64.wrap (IntKind.i64.wrap ((k : Int) - m) + 1) = ((k - m + 1 : Nat) : Int) := by
    rw [wr_small (x := (k : Int) - m) (by omega) (by omega), wr_small (by omega) (by omega)]; omega
  have hJ : ((k - m + 1 : Nat) : Int) < 34 := by omega
  have hk33 : (k : Int) < 33 := by omega
  have hk34 : (k : Int) < 34 := by omega
  generalize vF n k = X at *
  generalize (sm' n k : Nat) = Y at *
  generalize k - m + 1 = J at *
  generalize (sm' n J : Nat) = Z at *
  generalize n * 67 = O at *
  have HR := Lib.hid (show IntKind.u64.wrap (X + IntKind.u64.wrap (2 * IntKind.u64.wrap ((Y : Int) - (Z : Int)))) = ah n k (2 * m - 1) from by
    rw [hs, IntWalk.u64_in ((Y : Int) - (Z : Int)) (by omega), IntWalk.u64_in (2 * ((Y : Int) - (Z : Int))) (by omega), IntWalk.u64_in _ (by omega)])
  clear hT hs b1 b2 b3 e2 e3 hmo ev
  go_enter Tryd.func170, Tryd.ntmps170
  go_upto_region 1 with fail
  go_quiet (fail)
  go_wp2_with fail
  go_ret
  exact ⟨ret_int HR.out, below_drewN (Below.refl _ _) _⟩
theorem unk_zero (m : Nat) (k i : Int) (hm : m < 16) (hk : 0 ≤ k ∧ k ≤ 32) (h0 : 0 ≤ i) (h1 : i < vF ((m : Int) + 1) k) (h : i < vF m k) : unk (m + 1) k i = 0 :: unk m k i := by
  show nth (fst m k i) :: unk m (k - mag (nth (fst m k i))) (i - ah m k (fst m k i)) = _
  rw [fst_zero m k i hm hk h0 h1 h]
  have e1 : nth 0 = 0 := rfl
  have e2 : mag 0 = 0 := rfl
  have e3 : ah m k 0 = 0 := rfl
  rw [e1, e2, e3, Int.sub_zero, Int.sub_zero]
theorem mag_nat (q : Nat) : mag (q : Int) = q := by unfold mag; omega
theorem mag_neg (q : Nat) : mag (-(q : Int)) = q := by unfold mag; omega
theorem unk_pos (m : Nat) (k i : Int) (hm : m < 16) (hk : 0 ≤ k ∧ k ≤ 32) (h0 : 0 ≤ i) (h1 : i < vF ((m : Int) + 1) k) (q : Nat) (hq : 1 ≤ q) (h : ah m k (2 * q - 1) ≤ i) (h2 : i - ah m k (2 * q - 1) < vF m (k - q)) : unk (m + 1) k i = (q : Int) :: unk m (k - q) (i - ah m k (2 * q - 1)) := by
  show nth (fst m k i) :: unk m (k - mag (nth (fst m k i))) (i - ah m k (fst m k i)) = _
  rw [fst_pos m k i hm hk h0 h1 q hq h (by omega), nth_odd q hq, mag_nat]
theorem unk_neg (m : Nat) (k i : Int) (hm : m < 16) (hk : 0 ≤ k ∧ k ≤ 32) (h0 : 0 ≤ i) (h1 : i < vF ((m : Int) + 1) k) (q : Nat) (hq : 1 ≤ q) (h : ah m k (2 * q - 1) ≤ i) (h2 : vF m (k - q) ≤ i - ah m k (2 * q - 1)) (h3 : i < ah m k (2 * q + 1)) : unk (m + 1) k i = (-(q : Int)) :: unk m (k - q) (i - ah m k (2 * q - 1) - vF m (k - q)) := by
  show nth (fst m k i) :: unk m (k - mag (nth (fst m k i))) (i - ah m k (fst m k i)) = _
  rw [fst_neg m k i hm hk h0 h1 q hq (by omega) h3, nth_even q, mag_neg, (ah_two m k q hq).1]
  congr 2
  omega
/-- A block's cells with a vector laid over. -/
def ovr (F : Nat → Value) (o : Nat) (l : List Int) : Nat → Value := fun j => if o ≤ j ∧ j < o + l.length then .int .i64 (l.getD (j - o) 0) else F j
theorem ovr_nil (F : Nat → Value) (o j : Nat) : ovr F o [] j = F j := by unfold ovr; rw [if_neg (by rw [List.length_nil]; omega)]
theorem ovr_snoc (F : Nat → Value) (o : Nat) (l : List Int) (x : Int) (j : Nat) : updV (ovr F o l) (o + l.length) (.int .i64 x) j = ovr F o (l ++ [x]) j := by
  unfold updV ovr
  rw [List.length_append, List.length_singleton]
  by_cases e : j = o + l.length
  · rw [if_pos e, if_pos (by omega), e]
    simp [List.getD_eq_getElem?_getD]
  · rw [if_neg e]
    by_cases h : o ≤ j ∧ j < o + l.length
    · rw [if_pos h, if_pos (by omega)]
      congr 1
      rw [List.getD_eq_getElem?_getD, List.getD_eq_getElem?_getD, List.getElem?_append_left (by omega)]
    · rw [if_neg h, if_neg (by omega)]
theorem ovr_again (F : Nat → Value) (o : Nat) (l : List Int) (x y : Int) (j : Nat) : updV (ovr F o (l ++ [y])) (o + l.length) (.int .i64 x) j = ovr F o (l ++ [x]) j := by
  rw [← ovr_snoc F o l x j]
  unfold updV
  by_cases e : j = o + l.length
  · rw [if_pos e, if_pos e]
  · rw [if_neg e, if_neg e, ← ovr_snoc F o l y j]
    unfold updV
    rw [if_neg e]
set_option maxHeartbeats 8000000 in
set_option maxRecDepth 100000 in
theorem tabInto (b g o N : Nat) (T : TypeId) (F : Nat → Value) (n cap : Nat) (k0 i0 : Int) (hk : 0 ≤ k0 ∧ k0 ≤ 32) (hn : n ≤ 16) (h0 : 0 ≤ i0) (h1 : i0 < vF n k0) (hbg : b ≠ g) (hon : o + n ≤ N) (w : World) (hT : TableOK b w) (hB : Bv g T N F w) :
    Calls Tryd.prog 168 #[.pointer (some ⟨b, 0, none⟩), .slice (some ⟨g, o, none⟩) n cap, .int .i64 k0, .int .u64 i0] w fun e w' => e = .returned (.bool true) ∧ Bv g T N (ovr F o (unk n k0 i0)) w' ∧ Chg [g] w w' := by
  have hv := Lib.hid (fun w hT => tabV b w hT n k0)
  have hra := Lib.hid (fun n k m hn hk hm hmk w hT => rowAhead b n k m hn hk hm hmk w hT)
  have HT := Lib.hid hT
  have HB := Lib.hid hB
  obtain ⟨vv, hvv⟩ : ∃ x, vF n k0 = x := ⟨_, rfl⟩
  rw [hvv] at hv
  have HVV := Lib.hid hvv
  have h1' : i0 < vv := by omega
  have HI := Lib.hid h1
  clear hT hB hvv h1
  go_enter Tryd.func168, Tryd.ntmps168
  go_wp2_with fail
  refine (hv.out _ HT.out).mono ?_
  rintro e w' ⟨rfl, rfl⟩
  go_wp2_with fail
  go_loopw [2, 3, 9, 10, 11, 21] (fun v2 v3 v9 v10 v11 cnt wr => ∃ (a m : Nat) (dn : List Int) (k : Nat) (i : Int), a + m = n ∧ dn.length = a ∧ cnt = .int .i64 a ∧ v2 = .int .i64 k ∧ v3 = .int .u64 i ∧ k ≤ 32 ∧ 0 ≤ i ∧ i < vF m k ∧ unk n k0 i0 = dn ++ unk m k i ∧ Bv g T N (ovr F o dn) wr ∧ Chg [g] w wr) (fun _ _ _ _ _ cnt _ => n - (intOf cnt).toNat)
  case atStart => exact ⟨0, n, [], k0.toNat, i0, by omega, rfl, rfl, by rw [show ((k0.toNat : Nat) : Int) = k0 by omega], rfl, by omega, h0, by rw [show ((k0.toNat : Nat) : Int) = k0 by omega]; exact HI.out, by rw [show ((k0.toNat : Nat) : Int) = k0 by omega, List.nil_append], HB.out.ext fun i _ => (ovr_nil F o i).symm, Chg.refl _ _⟩
  case round =>
    obtain ⟨a, m, dn, k, i, ham, hdn, rfl, rfl, rfl, hk32, hi0, hi1, hunk, hBr, hCr⟩ := hrel
    have HBR := Lib.hid hBr
    have HCR := Lib.hid hCr
    have HUN := Lib.hid hunk
    clear hBr hCr hunk HI HB h1' h0 hk
    cases m with
    | zero =>
      have hlt : ¬ (a : Int) < n := by omega
      obtain rfl : a = n := by omega
      go_wp2_with fail
      go_ret
      refine ⟨rfl, ?_, HCR.out⟩
      rw [HUN.out, show unk 0 k i = [] from rfl, List.append_nil]
      exact HBR.out
    | succ m =>
      have hlt : (a : Int) < n := by omega
      have han : a < n := by omega
      have hidx : (n : Int) - 1 - a = m := by omega
      have hm17 : m < 17 := by omega
      have hmi : (m : Int) < 17 := by omega
      have hk33 : (k : Int) < 33 := by omega
      have hk0 : (0 : Int) ≤ k := by omega
      have hn64 : (n : Int) ≤ 16 := by omega
      have hTr := HT.out.chg HCR.out (by simpa using hbg)
      have HTR := Lib.hid hTr
      have HV1 := Lib.hid (show i < vF ((m : Int) + 1) k from by simpa using hi1)
      have fz : wr.frozen? ⟨g, o + a, none⟩ = false := (block_facts HBR.out).2.1 _
      have cx : wr.cell? ⟨g, o + a, none⟩ = some (ovr F o dn (o + a)) := HBR.out.cell (o + a) (by omega)
      generalize ovr F o dn (o + a) = cv0 at cx
      have HDN := Lib.hid hdn
      clear hdn hi1 hTr
      go_upto_region 8 with fail
      have hB2 := (HBR.out.set (o + a) (by omega) (.int .i64 0)).ext (fun j _ => (congrArg (fun x => updV (ovr F o dn) (o + x) (.int .i64 0) j) HDN.out.symm).trans (ovr_snoc F o dn 0 j))
      refine cut_world (fun W => Bv g T N (ovr F o (dn ++ [0])) W ∧ Chg [g] w W) ⟨hB2, HCR.out.setCell _ (by simp)⟩ ?_
      clear hB2 HBR HCR HTR fz cx
      rintro V ⟨hB, hC⟩
      have hTr := HT.out.chg hC (by simpa using hbg)
      have HB2 := Lib.hid hB
      have HC2 := Lib.hid hC
      have HTR := Lib.hid hTr
      have cv := hTr.vcell m k hm17 (by omega)
      clear hB hC hTr
      obtain ⟨vm, hvm⟩ : ∃ x, vF m k = x := ⟨_, rfl⟩
      rw [hvm] at cv
      have HVM := Lib.hid hvm
      clear hvm
      by_cases hz : i < vm
      · have HUZ := Lib.hid (unk_zero m k i (by omega) (by omega) hi0 HV1.out (by rw [HVM.out]; exact hz))
        go_wp2_with fail
        go_roundw
        case rel => exact ⟨a + 1, m, dn ++ [0], k, i, by omega, by simp [HDN.out], rfl, rfl, rfl, hk32, hi0, by rw [HVM.out]; exact hz, by rw [HUN.out, HUZ.out]; simp, HB2.out, HC2.out⟩
        case measure => simp [intOf]; omega
      · have hk1 : 1 ≤ k := by
          by_cases e : k = 0
          · subst e
            have h1 := HV1.out
            have h2 := HVM.out
            rw [show ((0 : Nat) : Int) = 0 from rfl] at h1 h2
            rw [vF_zero _ (by omega)] at h1 h2
            omega
          · omega
        have hvmi : vm ≤ i := by omega
        have HA1 := Lib.hid (show ah m k (2 * 1 - 1) ≤ i from by
          show ah m k 0 + vF m (k - mag (nth 0)) ≤ i
          rw [mag_nth]
          show 0 + vF m (k - ((0 + 1) / 2 : Nat)) ≤ i
          rw [show ((k : Int) - ((0 + 1) / 2 : Nat)) = k by omega, HVM.out]
          omega)
        go_wp2_with fail
        go_loopw [11] (fun v11 wr2 => ∃ q : Nat, v11 = .int .i64 q ∧ 1 ≤ q ∧ q ≤ k ∧ ah m k (2 * q - 1) ≤ i ∧ Below V.heap.size V wr2) (fun v11 _ => k - (intOf v11).toNat)
        case atStart => exact ⟨1, rfl, by omega, hk1, HA1.out, by (repeat' (first | with_reducible (first | exact Below.refl _ _ | assumption | refine Below.alloc ?_ ?_ _ | refine below_grew ?_ ?_ _ | refine Below.setCell ?_ ?_ _ | refine Below.drew ?_ | refine below_drewN ?_ _) | omega | (simp; done) | (simp; omega)))⟩
        case round =>
          obtain ⟨q, rfl, hq1, hqk, hqa, hbr⟩ := hrel
          have HQA := Lib.hid hqa
          have HBQ := Lib.hid hbr
          have HTQ := Lib.hid (show TableOK b wr from by obtain ⟨cs, h1, h2⟩ := HTR.out; exact ⟨cs, (hbr.block _ (HTR.out.lt)).trans h1, h2⟩)
          clear hqa hbr
          by_cases hgo : q < k ∧ ah m k (2 * (q + 1) - 1) ≤ i
          · obtain ⟨hqk', hgi⟩ := hgo
            have hqi : (q : Int) < k := by omega
            obtain ⟨A, hA⟩ : ∃ x, ah m k (2 * (q + 1) - 1) = x := ⟨_, rfl⟩
            have HRA := Lib.hid (fun w hT => hra.out m k (q + 1) hm17 (by omega) (by omega) (by omega) w hT)
            rw [hA] at HRA
            have HGI := Lib.hid hgi
            rw [hA] at hgi
            have HAA := Lib.hid hA
            clear hA
            go_wp2_with fail
            refine (HRA.out _ HTQ.out).mono ?_
            rintro e w3 ⟨rfl, hb3⟩
            have HB3 := Lib.hid (HBQ.out.trans (hb3.mono HBQ.out.size))
            clear hb3 HBQ HTQ
            go_wp2_with fail
            go_roundw
            case rel => exact ⟨q + 1, rfl, by omega, by omega, HGI.out, HB3.out⟩
            case measure => simp [intOf]; omega
          · have hkey : i < ah m k (2 * q + 1) := by
              by_cases e : q < k
              · have := hgo
                rw [show 2 * (q + 1) - 1 = 2 * q + 1 by omega] at this
                omega
              · obtain rfl : q = k := by omega
                have h1 := ah_all m (q : Int) (by omega) (by omega)
                rw [Int.toNat_natCast] at h1
                have := HV1.out
                omega
            obtain ⟨A, hA⟩ : ∃ x, ah m k (2 * q - 1) = x := ⟨_, rfl⟩
            have HRA := Lib.hid (fun w hT => hra.out m k q hm17 (by omega) hq1 hqk w hT)
            rw [hA] at HRA
            have hqa := HQA.out
            rw [hA] at hqa
            have hA0 : 0 ≤ A := by rw [← hA]; exact ah_nn _ _ _
            have HAA := Lib.hid hA
            have HKEY := Lib.hid hkey
            have HGO := Lib.hid hgo
            have hib := Lib.hid (show i ≤ 100000000000000000 from by have := vF_bd ((m : Int) + 1) k; have := HV1.out; omega)
            obtain ⟨kq, hkq⟩ : ∃ x, k - q = x := ⟨_, rfl⟩
            have hkqi : (k : Int) - q = kq := by omega
            have hkq33 : (kq : Int) < 33 := by omega
            clear hA hkey hgo hkq
            by_cases hqk2 : q < k
            · have hqi : (q : Int) < k := by omega
              obtain ⟨A2, hA2⟩ : ∃ x, ah m k (2 * (q + 1) - 1) = x := ⟨_, rfl⟩
              have HRA2 := Lib.hid (fun w hT => hra.out m k (q + 1) hm17 (by omega) (by omega) (by omega) w hT)
              have hlt2 : i < A2 := by
                have := HGO.out
                rw [hA2] at this
                omega
              rw [hA2] at HRA2
              clear hA2
              go_wp2_with fail
              refine (HRA2.out _ HTQ.out).mono ?_
              rintro e w3 ⟨rfl, hb3⟩
              have HB3 := Lib.hid (HBQ.out.trans (hb3.mono HBQ.out.size))
              have HT3 := Lib.hid (show TableOK b w3 from by obtain ⟨cs, h1, h2⟩ := HTQ.out; exact ⟨cs, (hb3.block _ (HTQ.out.lt)).trans h1, h2⟩)
              clear hb3 HBQ HTQ HRA2
              go_wp2_with fail
              have hi17 := hib.out
              refine (HRA.out _ HT3.out).mono ?_
              rintro e w4 ⟨rfl, hb4⟩
              have hb34 := HB3.out.trans (hb4.mono HB3.out.size)
              have hBv4 : Bv g T N (ovr F o (dn ++ [0])) w4 := (hb34.block _ (block_facts HB2.out).2.2).trans HB2.out
              have HBV4 := Lib.hid hBv4
              have HC4 := Lib.hid (HC2.out.below hb34)
              have fz : w4.frozen? ⟨g, o + a, none⟩ = false := (block_facts hBv4).2.1 _
              have cx : w4.cell? ⟨g, o + a, none⟩ = some (ovr F o (dn ++ [0]) (o + a)) := hBv4.cell (o + a) (by omega)
              generalize ovr F o (dn ++ [0]) (o + a) = cv1 at cx
              clear hb4 hb34 hBv4 HB3 HT3 HB2 HC2 HTR HRA
              go_upto_region 15 with fail
              have hB5 := (HBV4.out.set (o + a) (by omega) (.int .i64 q)).ext (fun j _ => (congrArg (fun x => updV (ovr F o (dn ++ [0])) (o + x) (.int .i64 q) j) HDN.out.symm).trans (ovr_again F o dn q 0 j))
              refine cut_world (fun W => Bv g T N (ovr F o (dn ++ [(q : Int)])) W ∧ Chg [g] w W) ⟨hB5, HC4.out.setCell _ (by simp)⟩ ?_
              clear hB5 HBV4 HC4 fz cx
              rintro V5 ⟨hB, hC⟩
              have hTr := HT.out.chg hC (by simpa using hbg)
              have HB5 := Lib.hid hB
              have HC5 := Lib.hid hC
              have cv := hTr.vcell m kq hm17 (by omega)
              have fz : V5.frozen? ⟨g, o + a, none⟩ = false := (block_facts hB).2.1 _
              have cx : V5.cell? ⟨g, o + a, none⟩ = some (ovr F o (dn ++ [(q : Int)]) (o + a)) := hB.cell (o + a) (by omega)
              generalize ovr F o (dn ++ [(q : Int)]) (o + a) = cv1 at cx
              clear hB hC hTr
              obtain ⟨vq, hvq⟩ : ∃ x, vF m kq = x := ⟨_, rfl⟩
              rw [hvq] at cv
              have HVQ := Lib.hid hvq
              have hvq0 : 0 ≤ vq := by rw [← hvq]; exact (vF_bd _ _).1
              clear hvq
              by_cases hneg : vq ≤ i - A
              · have HU := Lib.hid (unk_neg m k i (by omega) (by omega) hi0 HV1.out q hq1 (by rw [HAA.out]; exact hqa) (by rw [hkqi, HVQ.out, HAA.out]; exact hneg) HKEY.out)
                have HLT := Lib.hid (show i - A - vq < vq from by
                  have h1 := (ah_two m k q hq1).2
                  rw [HAA.out, hkqi, HVQ.out] at h1
                  have := HKEY.out
                  omega)
                have hia : ¬ i - A < vq := by omega
                have hqn : -9223372036854775808 < -(q : Int) := by omega
                go_upto_region 18 with fail
                have hB6 := (HB5.out.set (o + a) (by omega) (.int .i64 (-(q : Int)))).ext (fun j _ => (congrArg (fun x => updV (ovr F o (dn ++ [(q : Int)])) (o + x) (.int .i64 (-(q : Int))) j) HDN.out.symm).trans (ovr_again F o dn (-(q : Int)) q j))
                refine cut_world (fun W => Bv g T N (ovr F o (dn ++ [-(q : Int)])) W ∧ Chg [g] w W) ⟨hB6, HC5.out.setCell _ (by simp)⟩ ?_
                clear hB6 HB5 HC5 fz cx cv
                rintro V6 ⟨hB, hC⟩
                have HB6 := Lib.hid hB
                have HC6 := Lib.hid hC
                clear hB hC
                go_wp2_with fail
                go_roundw
                case rel => exact ⟨a + 1, m, dn ++ [-(q : Int)], kq, i - A - vq, by omega, by simp [HDN.out], rfl, rfl, rfl, by omega, by omega, by rw [HVQ.out]; exact HLT.out, by rw [HUN.out, HU.out, HAA.out, hkqi, HVQ.out]; simp, HB6.out, HC6.out⟩
                case measure => simp [intOf]; omega
              · have hlt2 : i - A < vq := by omega
                have HU := Lib.hid (unk_pos m k i (by omega) (by omega) hi0 HV1.out q hq1 (by rw [HAA.out]; exact hqa) (by rw [hkqi, HVQ.out, HAA.out]; exact hlt2))
                clear hneg
                go_wp2_with fail
                go_roundw
                case rel => exact ⟨a + 1, m, dn ++ [(q : Int)], kq, i - A, by omega, by simp [HDN.out], rfl, rfl, rfl, by omega, by omega, by rw [HVQ.out]; exact hlt2, by rw [HUN.out, HU.out, HAA.out, hkqi]; simp, HB5.out, HC5.out⟩
                case measure => simp [intOf]; omega
            · have hqi : ¬ (q : Int) < k := by omega
              have HB3 := Lib.hid HBQ.out
              have HT3 := Lib.hid HTQ.out
              clear HBQ HTQ
              go_wp2_with fail
              have hi17 := hib.out
              refine (HRA.out _ HT3.out).mono ?_
              rintro e w4 ⟨rfl, hb4⟩
              have hb34 := HB3.out.trans (hb4.mono HB3.out.size)
              have hBv4 : Bv g T N (ovr F o (dn ++ [0])) w4 := (hb34.block _ (block_facts HB2.out).2.2).trans HB2.out
              have HBV4 := Lib.hid hBv4
              have HC4 := Lib.hid (HC2.out.below hb34)
              have fz : w4.frozen? ⟨g, o + a, none⟩ = false := (block_facts hBv4).2.1 _
              have cx : w4.cell? ⟨g, o + a, none⟩ = some (ovr F o (dn ++ [0]) (o + a)) := hBv4.cell (o + a) (by omega)
              generalize ovr F o (dn ++ [0]) (o + a) = cv1 at cx
              clear hb4 hb34 hBv4 HB3 HT3 HB2 HC2 HTR HRA
              go_upto_region 15 with fail
              have hB5 := (HBV4.out.set (o + a) (by omega) (.int .i64 q)).ext (fun j _ => (congrArg (fun x => updV (ovr F o (dn ++ [0])) (o + x) (.int .i64 q) j) HDN.out.symm).trans (ovr_again F o dn q 0 j))
              refine cut_world (fun W => Bv g T N (ovr F o (dn ++ [(q : Int)])) W ∧ Chg [g] w W) ⟨hB5, HC4.out.setCell _ (by simp)⟩ ?_
              clear hB5 HBV4 HC4 fz cx
              rintro V5 ⟨hB, hC⟩
              have hTr := HT.out.chg hC (by simpa using hbg)
              have HB5 := Lib.hid hB
              have HC5 := Lib.hid hC
              have cv := hTr.vcell m kq hm17 (by omega)
              have fz : V5.frozen? ⟨g, o + a, none⟩ = false := (block_facts hB).2.1 _
              have cx : V5.cell? ⟨g, o + a, none⟩ = some (ovr F o (dn ++ [(q : Int)]) (o + a)) := hB.cell (o + a) (by omega)
              generalize ovr F o (dn ++ [(q : Int)]) (o + a) = cv1 at cx
              clear hB hC hTr
              obtain ⟨vq, hvq⟩ : ∃ x, vF m kq = x := ⟨_, rfl⟩
              rw [hvq] at cv
              have HVQ := Lib.hid hvq
              have hvq0 : 0 ≤ vq := by rw [← hvq]; exact (vF_bd _ _).1
              clear hvq
              by_cases hneg : vq ≤ i - A
              · have HU := Lib.hid (unk_neg m k i (by omega) (by omega) hi0 HV1.out q hq1 (by rw [HAA.out]; exact hqa) (by rw [hkqi, HVQ.out, HAA.out]; exact hneg) HKEY.out)
                have HLT := Lib.hid (show i - A - vq < vq from by
                  have h1 := (ah_two m k q hq1).2
                  rw [HAA.out, hkqi, HVQ.out] at h1
                  have := HKEY.out
                  omega)
                have hia : ¬ i - A < vq := by omega
                have hqn : -9223372036854775808 < -(q : Int) := by omega
                go_upto_region 18 with fail
                have hB6 := (HB5.out.set (o + a) (by omega) (.int .i64 (-(q : Int)))).ext (fun j _ => (congrArg (fun x => updV (ovr F o (dn ++ [(q : Int)])) (o + x) (.int .i64 (-(q : Int))) j) HDN.out.symm).trans (ovr_again F o dn (-(q : Int)) q j))
                refine cut_world (fun W => Bv g T N (ovr F o (dn ++ [-(q : Int)])) W ∧ Chg [g] w W) ⟨hB6, HC5.out.setCell _ (by simp)⟩ ?_
                clear hB6 HB5 HC5 fz cx cv
                rintro V6 ⟨hB, hC⟩
                have HB6 := Lib.hid hB
                have HC6 := Lib.hid hC
                clear hB hC
                go_wp2_with fail
                go_roundw
                case rel => exact ⟨a + 1, m, dn ++ [-(q : Int)], kq, i - A - vq, by omega, by simp [HDN.out], rfl, rfl, rfl, by omega, by omega, by rw [HVQ.out]; exact HLT.out, by rw [HUN.out, HU.out, HAA.out, hkqi, HVQ.out]; simp, HB6.out, HC6.out⟩
                case measure => simp [intOf]; omega
              · have hlt2 : i - A < vq := by omega
                have HU := Lib.hid (unk_pos m k i (by omega) (by omega) hi0 HV1.out q hq1 (by rw [HAA.out]; exact hqa) (by rw [hkqi, HVQ.out, HAA.out]; exact hlt2))
                clear hneg
                go_wp2_with fail
                go_roundw
                case rel => exact ⟨a + 1, m, dn ++ [(q : Int)], kq, i - A, by omega, by simp [HDN.out], rfl, rfl, rfl, by omega, by omega, by rw [HVQ.out]; exact hlt2, by rw [HUN.out, HU.out, HAA.out, hkqi]; simp, HB5.out, HC5.out⟩
                case measure => simp [intOf]; omega
end Go.Proofs.YtbcdnbbpkikppaaDoor
end

