/-
  StateLoses: behind any state a loss is made up for as the document says. For every input. The condition: the table of fades reads as the program's text lays it (tied).
  (One text out of these parts: LoseW, LoseRW, StM, Flat, Wf, LoseLaw, Law, LaidF, StateLosesRow.)
-/
import Derived.Test.YtmcjbejccelagaaDoorMslb
import Derived.OpenShut
import Derived.ProofKit
import Derived.LaidMore
import Derived.Stop.Joined
import Derived.Lib.LaidTab
import Derived.Test.YtmcjbejccelagaaDoorRows
import Derived.Test.YtmcjbejccelagaaDoorCards
import Derived.Test.YtmcjbejccelagaaDoorTie
import Derived.SevenTiedAt
section
namespace Go.Proofs.YtmcjbejccelagaaDoor
open Go.RowKit Go.BigFrame Go.Proofs.YtmcjbejccelagaaDoorW.PrintWords Go.Proofs.YtmcjbejccelagaaDoorW.PrintLast Go.Proofs.YtmcjbejccelagaaDoorW.PrintMore
open PStateLoses RStateLoses
set_option linter.unusedSimpArgs false
set_option linter.unusedVariables false
theorem sat16_eq (x : Int) : fix_Sat16.f x = some (sat16 x) := by
  unfold fix_Sat16.f sat16 mn mx
  congr 1
  split <;> split <;> omega
theorem info_sl : (Tryd.prog.info? 35).map (fun i => (i.zero, i.size, i.bytes)) = some (some (.slice none 0 0), 1, 24) := by kernel_rfl
theorem infoI16 : (Tryd.prog.info? 55).map (fun i => (i.zero, i.size, i.bytes)) = some (some (.int .i16 0), 1, 2) := by kernel_rfl
theorem zeroI32 (w : World) : (zeroValue 21).run Tryd.prog w = .ok (.int .i32 0) w := by kernel_rfl
theorem List.take_succ_eq_append_getElem' (X : List Int) (i : Nat) (h : i < X.length) : X.take (i + 1) = X.take i ++ [X.getD i 0] := by
  rw [List.take_succ_eq_append_getElem h, List.getD_eq_getElem?_getD, List.getElem?_eq_getElem h]; rfl
theorem madeF_bd (l : List Int) (L : Int) (i : Nat) : -16777216 ≤ (madeF l L).getD i 0 ∧ (madeF l L).getD i 0 ≤ 16777216 := by
  unfold madeF
  by_cases h : i < l.length
  · simp only [List.getD_eq_getElem?_getD, List.getElem?_map, List.getElem?_range h, Option.map_some, Option.getD_some]
    exact madeAt_bd _ _ _
  · rw [List.getD_eq_getElem?_getD, List.getElem?_eq_none (by simp; omega)]
    simp
theorem zeroS_size : Tryd.zeroCells29.size = 142 := by kernel_rfl
theorem zeroS_le (f : Nat → Int) : (ag kS 142 f).size ≤ Tryd.zeroCells29.size := by rw [ag_size, zeroS_size]; exact Nat.le_refl _
theorem infoS : (Tryd.prog.info? 29).map (·.size) = some 142 := by kernel_rfl
theorem infoS_ag (f : Nat → Int) : (Tryd.prog.info? 29).map (·.size) = some (ag kS 142 f).size := by rw [ag_size]; exact infoS
theorem R_lowT {α : Type} {d : Kd α} {e base base' : Nat} {w : World} {v : Value} {xs : List α} (h : d.R e w base (fun _ => True) v xs) (hb : base' ≤ base) : d.R e w base' (fun _ => True) v xs := Kd.R_lower h hb
/-- The call's frame: the state, the mode, the result. -/
structure LS (w : World) (B : Nat) (f : Nat → Int) (s c : Int) (W : World) : Prop where
  below : Below B w W
  size : B + 2 < W.heap.size
  st : Bx B St kS 142 f W
  mo : W.heap[B + 1]? = some (.cells #[.int .i64 s, .int .i64 c] 33 (0, 0))
  rz : W.heap[B + 2]? = some (.cells Tryd.zeroCells29 St (0, 0))
theorem LS.keepB {w B f s c} {C : Nat} {W W' : World} (h : LS w B f s c W) (hb : Below C W W') (hC : B + 2 < C) : LS w B f s c W' := by
  have hs := h.size
  exact ⟨h.below.trans (hb.mono (by omega)), Nat.lt_of_lt_of_le hs hb.size, (hb.block _ (by omega)).trans h.st, (hb.block _ (by omega)).trans h.mo, (hb.block _ (by omega)).trans h.rz⟩
theorem LS.keep {w B f s c} {W W' : World} (h : LS w B f s c W) (hb : Below W.heap.size W W') : LS w B f s c W' := h.keepB hb h.size
theorem LS.only {w B f s c} {f' : Nat → Int} {W W' : World} (h : LS w B f s c W) (ho : Only B W W') (hf : Bx B St kS 142 f' W') : LS w B f' s c W' :=
  ⟨ho.below h.below (Nat.le_refl _), by rw [ho.size]; exact h.size, hf, (ho.block _ (by omega)).trans h.mo, (ho.block _ (by omega)).trans h.rz⟩
theorem LS.m0 {w B f s c} {W : World} (h : LS w B f s c W) : W.cell? ⟨B + 1, 0, none⟩ = some (.int .i64 s) := (block_facts h.mo).1 0
theorem LS.m1 {w B f s c} {W : World} (h : LS w B f s c W) : W.cell? ⟨B + 1, 1, none⟩ = some (.int .i64 c) := (block_facts h.mo).1 1
theorem LS.ext {w B f s c} {f' : Nat → Int} {W : World} (h : LS w B f s c W) (he : ∀ i, i < 142 → f i = f' i) : LS w B f' s c W :=
  ⟨h.below, h.size, by have := h.st; unfold Bx at this ⊢; rwa [ag_ext kS 142 f f' he] at this, h.mo, h.rz⟩
def nOf (s : Int) : Nat := if s = 0 then 8 else if s = 1 then 16 else 32
def nbOf (s : Int) : Nat := (3 + s).toNat
/-- What a loss makes of a state. -/
def loseF (s c : Int) (st : Nat → Int) : Nat → Int := fun j =>
  if j = 140 then (st 140 * 1664525 + 1013904223) % 4294967296
  else if j = 141 then min (lossOf st) 1000
  else loseTo (nOf s) (nbOf s) (lossOf st) st c.toNat j
def soundsF (s : Int) (st : Nat → Int) (c : Nat) : List (List Int) := (List.range c).map fun i => soundC st (nOf s) i (lossOf st)
theorem modeN26 (s c : Int) (hs : 0 ≤ s ∧ s ≤ 2) (hc : 1 ≤ c ∧ c ≤ 2) (w : World) : Calls Tryd.prog 41 #[.agg #[.int .i64 s, .int .i64 c]] w fun e w' => e = .returned (.int .i64 (nOf s : Nat)) ∧ Below w.heap.size w w' := by
  have hr : mode_Mode_Right.f s c = some true := by
    unfold mode_Mode_Right.f
    rw [if_pos (by omega), if_pos (by omega), if_pos (by omega), decide_eq_true (by omega)]
  have h : mode_Mode_N.f s c = some ((nOf s : Nat) : Int) := by
    unfold mode_Mode_N.f
    rw [hr]
    simp only [Option.bind_some, if_true]
    rw [if_pos hs.1]
    rcases (show s = 0 ∨ s = 1 ∨ s = 2 by omega) with h | h | h <;> subst h <;> rfl
  exact mode_Mode_N.calls s c _ w h
theorem nOf_len (s : Int) : Len (nOf s) := by unfold Len nOf; split <;> (try split) <;> omega
theorem bands26 (s : Int) (c : Int) (hs : 0 ≤ s ∧ s ≤ 2) (hc : 1 ≤ c ∧ c ≤ 2) (w : World) : Calls Tryd.prog 37 #[.agg #[.int .i64 s, .int .i64 c]] w fun e w' => e = .returned (.int .i64 (nbOf s : Nat)) ∧ Below w.heap.size w w' := by
  have h := modeBands s c w
  rwa [show bandsF s c = (nbOf s : Nat) from by unfold bandsF nbOf; rw [if_pos ⟨by omega, by omega, by omega, by omega⟩]; omega] at h
theorem loseTo_hist (n nb : Nat) (L : Int) (st : Nat → Int) (k : Nat) (hn : n ≤ 32) (hb : nb ≤ 5) (hk : k < 2) : ∀ i, i ≤ k → histL (loseTo n nb L st i) n k = histL st n k
  | 0, _ => rfl
  | i + 1, h => by
    rw [loseTo, loseC_hist n nb i k L _ hn hb (by omega) hk (by omega)]
    exact loseTo_hist n nb L st k hn hb hk i (by omega)
theorem LS.below' {w B f s c} {W : World} (h : LS w B f s c W) (hB : w.heap.size ≤ B) : Below w.heap.size w W := h.below.mono hB
theorem plainL (st : Nat → Int) (n nb : Nat) (L : Int) (k B : Nat) (W : World) (hn : Len n) (hk : k < 2) (hb : nb ≤ 5) (hW : Bx B St kS 142 (loseTo n nb L st k) W) (hT : FadeW W) :
    Calls Tryd.prog 42 #[.slice (some ⟨B, 74 + k * 32, none⟩) n 32, .int .i64 L] W fun e w' => ∃ v, e = .returned v ∧ Kd.R (Kd.int .i32) 21 w' W.heap.size (fun _ => True) v (madeF (histL st n k) L) ∧ Below W.heap.size W w' := by
  have hn32 : n ≤ 32 := by unfold Len at hn; omega
  have hC := bx_reads hW .i32 (74 + k * 32) n (by omega) (by decide) (fun j h1 h2 => by unfold kS; rw [if_neg (by omega), if_pos (by omega)])
  have e : ((List.range n).map fun i => loseTo n nb L st k (74 + k * 32 + i)) = histL st n k := loseTo_hist n nb L st k hn32 hb hk k (Nat.le_refl _)
  rw [e] at hC
  have := plain_any (histL st n k) (some ⟨B, 74 + k * 32, none⟩) 32 L W hC (by rw [histL_len]; exact hn32) (by rw [histL_len]; exact hn) hT
  rwa [histL_len] at this
theorem loseTo_E (n nb : Nat) (L : Int) (st : Nat → Int) (h : ∀ j, j < 10 → st j ≤ 9223372036854775807) : ∀ k j, j < 10 → loseTo n nb L st k j ≤ 9223372036854775807
  | 0, j, hj => h j hj
  | k + 1, j, hj => by
    have := loseTo_E n nb L st h k j hj
    rw [loseTo, loseC]
    rw [if_neg (by omega), if_neg (by omega), if_neg (by omega)]
    split <;> omega
/-- The energies of a channel, so many of them smaller. -/
def eTo (f : Nat → Int) (k b : Nat) : Nat → Int := fun j => if k * 5 ≤ j ∧ j < k * 5 + b then max (f j) 2 - 2 else f j
theorem loseTo_high (n nb : Nat) (L : Int) (st : Nat → Int) (hn : n ≤ 32) (hb : nb ≤ 5) (j : Nat) (hj : 140 ≤ j) : ∀ k, k ≤ 2 → loseTo n nb L st k j = st j
  | 0, _ => rfl
  | k + 1, hk => by
    rw [loseTo, loseC, if_neg (by omega), if_neg (by omega), if_neg (by omega), if_neg (by omega)]
    exact loseTo_high n nb L st hn hb j hj k (by omega)
theorem eTo_lose (n nb : Nat) (L : Int) (st : Nat → Int) (k : Nat) (X : List Int) (hX : X.length = n) (hn : n ≤ 32) (hb : nb ≤ 5) (hk : k < 2) (hm : madeF (histL st n k) L = X) (j : Nat) :
    eTo (updI (overF (overF (loseTo n nb L st k) (74 + k * 32) X) (10 + k * 32) (List.replicate n 0)) (138 + k) 0) k nb j = loseTo n nb L st (k + 1) j := by
  rw [loseTo, loseC, loseTo_hist n nb L st k hn hb hk k (Nat.le_refl _)]
  unfold eTo updI overF
  rw [List.length_replicate, hX]
  by_cases h1 : 10 + k * 32 ≤ j ∧ j < 10 + k * 32 + n
  · rw [if_neg (by omega), if_neg (by omega), if_pos h1, if_pos h1]
    simp [List.getD_eq_getElem?_getD, List.getElem?_replicate, show j - (10 + k * 32) < n from by omega]
  · by_cases h2 : 74 + k * 32 ≤ j ∧ j < 74 + k * 32 + n
    · rw [if_neg (by omega), if_neg (by omega), if_neg h1, if_pos h2, if_neg h1, if_pos h2, ← hm]
      have hl : (histL st n k).length = n := histL_len ..
      simp only [madeF, List.getD_eq_getElem?_getD, List.getElem?_map]
      rw [hl, List.getElem?_range (by omega)]
      rfl
    · by_cases h3 : j = 138 + k
      · rw [if_neg (by omega), if_pos h3, if_neg h1, if_neg h2, if_pos h3]
      · rw [if_neg h3, if_neg h1, if_neg h2, if_neg h1, if_neg h2, if_neg h3]
def soundsK (st : Nat → Int) (n : Nat) (L : Int) (k : Nat) : List (List Int) := (List.range k).map fun i => soundC st n i L
theorem soundsK_len (st : Nat → Int) (n : Nat) (L : Int) (k : Nat) : ∀ x ∈ soundsK st n L k, x.length = n := by
  intro x hx
  obtain ⟨i, _, rfl⟩ := List.mem_map.1 hx
  simp [soundC, madeF_len, histL_len]
set_option maxHeartbeats 4000000 in
set_option maxRecDepth 100000 in
theorem lose_any (st : Nat → Int) (s : Int) (c : Nat) (hs : 0 ≤ s ∧ s ≤ 2) (hc : 1 ≤ c ∧ c ≤ 2) (hst0 : ∀ j, j < 10 → st j ≤ 9223372036854775807) (w : World) (hT : FadeW w) :
    Calls Tryd.prog 14 #[.agg (ag kS 142 st), .agg #[.int .i64 s, .int .i64 c]] w fun e w' => ∃ v, e = .returned (.tuple #[.agg (ag kS 142 (loseF s c st)), v]) ∧
      Kd.R (Kd.int .i16) 55 w' w.heap.size (fun _ => True) v (mixF (soundsF s st c) (nOf s)) ∧ Below w.heap.size w w' := by
  have HT := Lib.hid hT
  have hst := Lib.hid hst0
  have hR := Lib.hid (show RightP s c from ⟨by omega, by omega, by omega, by omega⟩)
  have hN := Lib.hid (fun w => modeN26 s c hs (by omega) w)
  have hBn := Lib.hid (fun w => bands26 s c hs (by omega) w)
  have hRt := Lib.hid (fun w => modeRight s c w)
  rw [decide_eq_true hR.out] at hRt
  obtain ⟨n, hn⟩ : ∃ n, nOf s = n := ⟨_, rfl⟩
  obtain ⟨nb, hnb⟩ : ∃ nb, nbOf s = nb := ⟨_, rfl⟩
  rw [hn] at hN
  rw [hnb] at hBn
  have HL := Lib.hid (nOf_len s)
  rw [hn] at HL
  have hn32 : 8 ≤ n ∧ n ≤ 32 := by have := HL.out; unfold Len at this; omega
  have hnb5 : nb ≤ 5 := by unfold nbOf at hnb; omega
  have Hn := Lib.hid hn
  have Hnb := Lib.hid hnb
  have e141 : (ag kS 142 st)[141]? = some (.int .i64 (st 141)) := ag_get _ _ _ _ (by decide)
  clear hT hn hnb hst0
  go_enter Tryd.func14, Tryd.ntmps14
  go_wp2_with (first | (go_at_call 40; refine (hRt.out _).mono ?_; rintro e w' ⟨rfl, hb1⟩; obtain ⟨x1, rfl⟩ := below_as_grew hb1; clear hb1) | (go_at_call 41; refine (hN.out _).mono ?_; rintro e w' ⟨rfl, hb1⟩; obtain ⟨x1, rfl⟩ := below_as_grew hb1; clear hb1))
  refine cut_world (fun V => LS w w.heap.size st s c V) ⟨by (repeat' (first | (with_reducible exact Below.refl _ _) | (with_reducible assumption) | (with_reducible refine Below.alloc ?_ ?_ _) | (with_reducible refine below_grew ?_ ?_ _) | (with_reducible refine Below.setCell ?_ ?_ _) | (with_reducible refine Below.drew ?_) | (with_reducible refine below_drewN ?_ _) | omega | (simp; done) | (simp; omega))), by simp; omega, (World.grew_block _ _ _ (by simp; omega)).trans (alloc_three _ _ _ _), (World.grew_block _ _ _ (by simp)).trans (alloc_second _ _ _ _), (World.grew_block _ _ _ (by simp)).trans (alloc_third _ _ _ _)⟩ ?_
  clear e141
  intro V hV
  generalize hBd : w.heap.size = B at *
  have HBd := Lib.hid hBd
  have HV := Lib.hid hV
  have hVs := hV.size
  clear hBd hV
  generalize hL : min (max (st 141) 0) 1000 + 1 = L
  have HLo := Lib.hid (show lossOf st = L from hL)
  clear hL
  go_loopw [8, 28] (fun vs cnt wr => ∃ k : Nat, k ≤ c ∧ cnt = .int .i64 k ∧ LS w B (loseTo n nb L st k) s c wr ∧ Kd.R (Kd.slice 55 (Kd.int .i16)) 35 wr V.heap.size (fun _ => True) vs (soundsK st n L k) ∧ V.heap.size ≤ wr.heap.size) (fun _ cnt _ => c - (intOf cnt).toNat)
  case atStart => exact ⟨0, by omega, rfl, HV.out, Kd.R_nil _ _ _ _ _, Nat.le_refl _⟩
  case round =>
    obtain ⟨k, hk, rfl, hLS, hS, hsz⟩ := hrel
    have HLS := Lib.hid hLS
    have HS := Lib.hid hS
    have hws := hLS.size
    clear hLS hS
    by_cases hlt : k < c
    · have hlt' : (k : Int) < c := by omega
      have hk0 : (0 : Int) ≤ k := by omega
      have hk2 : (k : Int) < 2 := by omega
      have m1 := HLS.out.m1
      have n0 : (0 : Int) ≤ n := by omega
      have n32 : (n : Int) ≤ 32 := by omega
      have hpl := Lib.hid (fun W hC => plainL st n nb L k B W HL.out (by omega) hnb5 hC)
      go_wp2_with fail
      refine (hpl.out _ HLS.out.st (HT.out.below (HLS.out.below' (Nat.le_of_eq HBd.out)))).mono ?_
      rintro e w1 ⟨v1, rfl, hR1, hb1⟩
      obtain ⟨X, hX⟩ : ∃ X, madeF (histL st n k) L = X := ⟨_, rfl⟩
      have hXl : X.length = n := by rw [← hX, madeF_len, histL_len]
      rw [hX] at hR1
      obtain ⟨A, cx, rfl, hcx, hCx⟩ := Kd.R_reads hR1
      have HX := Lib.hid hX
      have HXl := Lib.hid hXl
      have HCx := Lib.hid hCx
      have hlt1 := HLS.out.keep hb1
      have HLS1 := Lib.hid hlt1
      have hS1 := Kd.R_below HS.out hb1
      have HS1 := Lib.hid hS1
      have hw1 : V.heap.size ≤ w1.heap.size := Nat.le_trans hsz hb1.size
      have hX32 : X.length ≤ 32 := by omega
      clear hX hXl hR1 hCx hb1 hlt1 hS1 HLS HS m1 hpl hws
      go_wp2_with fail
      go_loopw [11, 40] (fun vo cnt wr => ∃ i : Nat, i ≤ X.length ∧ cnt = .int .i64 i ∧ Kd.R (Kd.int .i16) 55 wr w1.heap.size (fun _ => True) vo ((X.take i).map sat16) ∧ Below w1.heap.size w1 wr) (fun _ cnt _ => X.length - (intOf cnt).toNat)
      case atStart => exact ⟨0, by omega, rfl, Kd.R_nil _ _ _ _ _, Below.refl _ _⟩
      case round =>
        obtain ⟨i, hi, rfl, hO, hB⟩ := hrel
        have HO := Lib.hid hO
        have HB := Lib.hid hB
        clear hO hB
        by_cases hlt2 : i < X.length
        · have hlt2' : (i : Int) < X.length := by omega
          have hi0 : (0 : Int) ≤ i := by omega
          obtain ⟨ad, rfl, hcl⟩ := Kd.at_int HCx.out i hi0 hlt2'
          rw [rd_nat, Int.toNat_natCast] at hcl
          have hcl := (HB.out.cell (World.block_lt_of_cell? w1 _ hcl)).trans hcl
          obtain ⟨hz1, hz2⟩ := madeF_bd (histL st n k) L i
          rw [HX.out] at hz1 hz2
          generalize hz : X.getD i 0 = z at *
          have HZ := Lib.hid hz
          have Hsat := Lib.hid (fun w => fix_Sat16.calls z _ w (sat16_eq z))
          clear hz
          go_wp2_with (first | (go_at_call 43; refine (Hsat.out _).mono ?_; rintro e wg ⟨rfl, hbg⟩; have HBG := Lib.hid hbg; clear hbg) | (at_builtin; refine Kd.R_append (Kd.int .i16) (w0 := w1) w1.heap.size rfl (.tmp 44) (.tmp 48) 35 55 (.int .i16 0) 2 rfl Tryd.underlying35 infoI16 rfl (by decide) (by omega) u11 ((X.take i).map sat16) (sat16 z) [.int .i16 (sat16 z)] (fun _ => True) (fun _ => False) rfl rfl ?aP (fun _ hk => hk.elim) ?aF ?aO ?aB ?aS ?aL ?_; (case aP => exact rfl); (case aF => exact (fun _ _ => trivial)); (case aO => exact Kd.R_below HO.out HBG.out); (case aB => exact (HB.out.trans (HBG.out.mono HB.out.size))); (case aS => exact Nat.le_trans HB.out.size HBG.out.size); (case aL => simp; omega); intro v2 w2 hO2 hB2 hgr hat; have HO2 := Lib.hid hO2; have HB2 := Lib.hid hB2; clear hO2 hB2 hgr hat))
          go_roundw
          case rel =>
            refine ⟨i + 1, by omega, rfl, ?_, HB2.out⟩
            have e := HO2.out
            rwa [← List.map_singleton (f := sat16), ← List.map_append, ← HZ.out, ← List.take_succ_eq_append_getElem' X i hlt2] at e
          case measure => simp [intOf]; omega
        · have hlt2' : ¬ (i : Int) < X.length := by omega
          obtain rfl : i = X.length := by omega
          rw [List.take_length] at HO
          obtain ⟨A2, l2, c2, rfl⟩ : ∃ A2 l2 c2, u11 = .slice A2 l2 c2 := by
            obtain ⟨A2, c2, h⟩ := Kd.R_slice HO.out
            exact ⟨_, _, _, h⟩
          have HLS2 := Lib.hid (HLS1.out.keep HB.out)
          have HS2 := Lib.hid (Kd.R_below HS1.out HB.out)
          have HCx2 := Lib.hid (Kd.C_below HCx.out HB.out)
          have hX0 : 0 < X.length := by have := HXl.out; omega
          have hw2 : V.heap.size ≤ wr.heap.size := Nat.le_trans hw1 HB.out.size
          go_wp2_with ((with_reducible refine gate_builtin (b := .copy) (xs := #[.tmp 54, .tmp 55]) rfl ?_); refine copy_bx rfl (.tmp 54) (.tmp 55) 90 90 rfl 21 Tryd.underlying90 (by kernel_rfl) B (74 + k * 32) 32 32 cx A .i32 X rfl rfl HCx2.out ?c1 ?c2 HLS2.out.st ?c3 ?c4 ?c5; (case c1 => exact hX0); (case c2 => exact hX32); (case c3 => omega); (case c4 => intro j h1 h2; unfold kS; rw [if_neg (by omega), if_pos (by omega)]); intro w3 ho3 hb3; have HO3 := Lib.hid ho3; have HB3 := Lib.hid hb3; clear ho3 hb3)
          have hls3 := HLS2.out.only HO3.out HB3.out
          have hcl : ∀ ty, (Builtin.clear_ #[90] ty #[.slice (some ⟨B, 10 + k * 32, none⟩) n 32]).run Tryd.prog w3 = .ok (.tuple #[]) (w3.setCells B (10 + k * 32) (List.replicate n (.int .i32 0))) := fun ty => Lib.run_clear_slice w3 90 21 ty (.int .i32 0) Tryd.underlying90 zeroI32 rfl rfl B (10 + k * 32) n 32 (by omega) (fun j hj => by rw [ag_cell hls3.st _ (by omega)]; rfl) (fun j hj => (block_facts hls3.st).2.1 _)
          have ho4 := only_setCells w3 B (10 + k * 32) (List.replicate n (.int .i32 0))
          have hb4 := bx_setCells hls3.st .i32 (10 + k * 32) (List.replicate n 0) (by simp; omega) (fun j h1 h2 => by simp at h2; unfold kS; rw [if_neg (by omega), if_pos (by omega)])
          rw [List.map_replicate] at hb4
          generalize w3.setCells B (10 + k * 32) (List.replicate n (.int .i32 0)) = w4 at *
          have hls4 := hls3.only ho4 hb4
          have d1 := ag_cell hb4 (138 + k) (by omega)
          have d2 := (block_facts hb4).2.1 (138 + k)
          rw [show kS (138 + k) = .i32 from by unfold kS; rw [if_neg (by omega), if_pos (by omega)]] at d1
          have ho5 := only_setCell w4 ⟨B, 138 + k, none⟩ (.int .i32 0)
          have hb5 := ag_store hb4 (138 + k) (by omega) 0
          rw [show kS (138 + k) = .i32 from by unfold kS; rw [if_neg (by omega), if_pos (by omega)]] at hb5
          have HLS5 := Lib.hid (hls4.only ho5 hb5)
          have hoW : Only B wr (w4.setCell ⟨B, 138 + k, none⟩ (.int .i32 0)) := (HO3.out.trans ho4).trans ho5
          have hSW := R_only HS2.out hoW (by omega)
          have hxW := R_only HO.out hoW (by have := HLS1.out.size; omega)
          obtain ⟨inner, hin⟩ := Kd.R_own HS1.out
          have hxW2 := Kd.R_lower (Kd.R_new hxW hin) hw1
          have HSW := Lib.hid hSW
          have HXW := Lib.hid hxW2
          have HOW := Lib.hid hoW
          have hsW : V.heap.size ≤ (w4.setCell ⟨B, 138 + k, none⟩ (.int .i32 0)).heap.size := by rw [hoW.size]; exact hw2
          have HSz := Lib.hid hsW
          clear hls3 ho4 hls4 ho5 hb5 hoW hSW hxW hxW2 hin hb4 hsW HO HB HLS1 HS1 HCx HLS2 HS2 HCx2
          go_wp2_with (first | (simp only [hcl]) | ((with_reducible refine gate_builtin (b := .append) (xs := #[.tmp 65, .tmp 67]) rfl ?_); at_builtin; refine Kd.R_append (Kd.slice 55 (Kd.int .i16)) (w0 := w4.setCell ⟨B, 138 + k, none⟩ (.int .i32 0)) V.heap.size rfl (.tmp 65) (.tmp 67) 89 35 (.slice none 0 0) 24 rfl Tryd.underlying89 info_sl rfl (by decide) (by omega) u8 (soundsK st n L k) (X.map sat16) [.slice A2 l2 c2] (fun _ => True) (fun b => True ∧ some b ≠ u8.ownBlock) rfl (Eq.trans (b := Value.slice (some ⟨w4.heap.size, 0, none⟩) 1 1) rfl (by simp)) ?aP ?aQ ?aF ?aO ?aB ?aS ?aL ?_; (case aP => exact ⟨_, rfl, HXW.out⟩); (case aQ => exact fun _ h => h); (case aF => exact (fun _ _ => trivial)); (case aO => exact HSW.out); (case aB => exact Below.refl _ _); (case aS => exact HSz.out); (case aL => simp [soundsK]; omega); intro v5 w5 hS5 hB5 hgr hat; have HS5 := Lib.hid hS5; have HLS6 := Lib.hid (HLS5.out.keepB hB5 hVs); have hs5 := Nat.le_trans HSz.out hB5.size; have m0 := HLS6.out.m0; have m1 := HLS6.out.m1; clear hS5 hB5 hgr hat) | (go_at_call 37; refine (hBn.out _).mono ?_; rintro e w6 ⟨rfl, hb6⟩))
          generalize hf5 : updI (overF (overF (loseTo n nb L st k) (74 + k * 32) X) (10 + k * 32) (List.replicate n 0)) (138 + k) 0 = f5 at HLS6
          have hE5 : ∀ j, j < 10 → f5 j ≤ 9223372036854775807 := fun j hj => by
            rw [← hf5]
            unfold updI overF
            rw [if_neg (by omega), if_neg (by omega), if_neg (by omega)]
            exact loseTo_E n nb L st hst.out k j hj
          have HF5 := Lib.hid hf5
          have HE5 := Lib.hid hE5
          clear hf5 hE5 m0 m1 hcl d1 d2
          have hls7 := HLS6.out.keep hb6
          have hs7 := Kd.R_below HS5.out hb6
          have hz7 := Nat.le_trans hs5 hb6.size
          have HLS7 := Lib.hid hls7
          have HS7 := Lib.hid hs7
          clear hls7 hs7 HLS6 HS5 hb6 hs5 HSW HXW HOW HSz HO3 HB3 HLS5
          go_loopw [71] (fun cnt wr => ∃ b : Nat, b ≤ nb ∧ cnt = .int .i64 b ∧ LS w B (eTo f5 k b) s c wr ∧ Kd.R (Kd.slice 55 (Kd.int .i16)) 35 wr V.heap.size (fun _ => True) v5 (soundsK st n L k ++ [X.map sat16]) ∧ V.heap.size ≤ wr.heap.size) (fun cnt _ => nb - (intOf cnt).toNat)
          case atStart => exact ⟨0, by omega, rfl, HLS7.out.ext (fun j hj => by unfold eTo; rw [if_neg (by omega)]), HS7.out, hz7⟩
          case round =>
            obtain ⟨b, hb, rfl, hls, hs8, hz8⟩ := hrel
            have HLS8 := Lib.hid hls
            have HS8 := Lib.hid hs8
            have hwB := hls.size
            clear hls hs8
            by_cases hlt3 : b < nb
            · have hlt3' : (b : Int) < nb := by omega
              have hb0 : (0 : Int) ≤ b := by omega
              have hb5 : (b : Int) < 5 := by omega
              have r0 := ag_cell HLS8.out.st (k * 5 + b) (by omega)
              have r1 := (block_facts HLS8.out.st).2.1 (k * 5 + b)
              rw [show kS (k * 5 + b) = .i64 from by unfold kS; rw [if_pos (by omega)], show eTo f5 k b (k * 5 + b) = f5 (k * 5 + b) from by unfold eTo; rw [if_neg (by omega)]] at r0
              have hy := HE5.out (k * 5 + b) (by omega)
              generalize hyy : f5 (k * 5 + b) = y at r0 hy
              have HY := Lib.hid hyy
              have hwBB : B < wr.heap.size := by omega
              clear hyy
              go_wp2_with fail
              refine wp_region_inv [] (fun W => Below wr.heap.size wr W) (fun W W' => Below W.heap.size W W') 13 (by kernel_rfl) (by kernel_rfl) (by kernel_rfl) ((Below.refl _ _).drew) (fun W W' h h' => h.trans (h'.mono h.size)) (fun _ _ h => h.size) ?_
              simp only [List.take_succ_cons, List.take_zero, List.drop_succ_cons, List.drop_zero]
              refine wpInv_det (by kernel_rfl) (by kernel_rfl) ?_
              apply Exists.intro
              refine ⟨?_, ?_, ?_⟩
              · intro U W hC hH
                obtain ⟨hc1, hf1⟩ := bcell hC
                simp only [HypsU, predsOf, Region.binds, List.filterMap_cons, List.filterMap_nil, if_true, List.nil_append, List.cons_append, List.getD_cons_zero, List.getD_cons_succ] at hH
                simp only [fillPuts, Act.put, List.setIfInBounds_toArray, List.set_cons_zero, List.set_cons_succ, Nat.reduceAdd]
                go_wp2_with fail
                refine ⟨rfl, rfl, by (repeat' (first | (with_reducible exact Below.refl _ _) | (with_reducible assumption) | (with_reducible refine Below.alloc ?_ ?_ _) | (with_reducible refine below_grew ?_ ?_ _) | (with_reducible refine Below.setCell ?_ ?_ _) | (with_reducible refine Below.drew ?_) | (with_reducible refine below_drewN ?_ _) | omega | (simp; done) | (simp; omega))), ?_⟩
                conv => lhs; whnf
                try rfl
              · exact fun _ => rfl
              simp only [List.nil_append, List.cons_append, Nat.reduceAdd]
              refine wpInv_det (by kernel_rfl) (by kernel_rfl) ?_
              apply Exists.intro
              refine ⟨?_, ?_, ?_⟩
              · intro U W hC hH
                obtain ⟨hc1, hf1⟩ := bcell hC
                simp only [HypsU, predsOf, Region.binds, List.filterMap_cons, List.filterMap_nil, if_true, List.nil_append, List.cons_append, List.getD_cons_zero, List.getD_cons_succ] at hH
                simp only [fillPuts, Act.put, List.setIfInBounds_toArray, List.set_cons_zero, List.set_cons_succ, Nat.reduceAdd]
                go_wp2_with fail
                refine ⟨rfl, rfl, by (repeat' (first | (with_reducible exact Below.refl _ _) | (with_reducible assumption) | (with_reducible refine Below.alloc ?_ ?_ _) | (with_reducible refine below_grew ?_ ?_ _) | (with_reducible refine Below.setCell ?_ ?_ _) | (with_reducible refine Below.drew ?_) | (with_reducible refine below_drewN ?_ _) | omega | (simp; done) | (simp; omega))), ?_⟩
                conv => lhs; whnf
                try rfl
              · exact fun _ => rfl
              simp only [List.nil_append, List.cons_append, Nat.reduceAdd]
              refine wpInv_det (by kernel_rfl) (by kernel_rfl) ?_
              apply Exists.intro
              refine ⟨?_, ?_, ?_⟩
              · intro U W hC hH
                obtain ⟨hc1, hf1⟩ := bcell hC
                simp only [HypsU, predsOf, Region.binds, List.filterMap_cons, List.filterMap_nil, if_true, List.nil_append, List.cons_append, List.getD_cons_zero, List.getD_cons_succ] at hH
                simp only [fillPuts, Act.put, List.setIfInBounds_toArray, List.set_cons_zero, List.set_cons_succ, Nat.reduceAdd]
                go_wp2_with fail
                refine ⟨rfl, rfl, by (repeat' (first | (with_reducible exact Below.refl _ _) | (with_reducible assumption) | (with_reducible refine Below.alloc ?_ ?_ _) | (with_reducible refine below_grew ?_ ?_ _) | (with_reducible refine Below.setCell ?_ ?_ _) | (with_reducible refine Below.drew ?_) | (with_reducible refine below_drewN ?_ _) | omega | (simp; done) | (simp; omega))), ?_⟩
                conv => lhs; whnf
                try rfl
              · exact fun _ => rfl
              simp only [List.nil_append, List.cons_append, Nat.reduceAdd]
              refine wpInv_det (by kernel_rfl) (by kernel_rfl) ?_
              apply Exists.intro
              refine ⟨?_, ?_, ?_⟩
              · intro U W hC hH
                obtain ⟨hc1, hf1⟩ := bcell hC
                simp only [HypsU, predsOf, Region.binds, List.filterMap_cons, List.filterMap_nil, if_true, List.nil_append, List.cons_append, List.getD_cons_zero, List.getD_cons_succ] at hH
                simp only [fillPuts, Act.put, List.setIfInBounds_toArray, List.set_cons_zero, List.set_cons_succ, Nat.reduceAdd]
                go_wp2_with fail
                refine ⟨rfl, rfl, by (repeat' (first | (with_reducible exact Below.refl _ _) | (with_reducible assumption) | (with_reducible refine Below.alloc ?_ ?_ _) | (with_reducible refine below_grew ?_ ?_ _) | (with_reducible refine Below.setCell ?_ ?_ _) | (with_reducible refine Below.drew ?_) | (with_reducible refine below_drewN ?_ _) | omega | (simp; done) | (simp; omega))), ?_⟩
                conv => lhs; whnf
                try rfl
              · exact fun _ => rfl
              simp only [List.nil_append, List.cons_append, Nat.reduceAdd]
              refine wpInv_det (by kernel_rfl) (by kernel_rfl) ?_
              apply Exists.intro
              refine ⟨?_, ?_, ?_⟩
              · intro U W hC hH
                obtain ⟨hc1, hf1⟩ := bcell hC
                simp only [HypsU, predsOf, Region.binds, List.filterMap_cons, List.filterMap_nil, if_true, List.nil_append, List.cons_append, List.getD_cons_zero, List.getD_cons_succ] at hH
                simp only [fillPuts, Act.put, List.setIfInBounds_toArray, List.set_cons_zero, List.set_cons_succ, Nat.reduceAdd]
                go_wp2_with fail
                refine ⟨rfl, rfl, by (repeat' (first | (with_reducible exact Below.refl _ _) | (with_reducible assumption) | (with_reducible refine Below.alloc ?_ ?_ _) | (with_reducible refine below_grew ?_ ?_ _) | (with_reducible refine Below.setCell ?_ ?_ _) | (with_reducible refine Below.drew ?_) | (with_reducible refine below_drewN ?_ _) | omega | (simp; done) | (simp; omega))), ?_⟩
                conv => lhs; whnf
                try rfl
              · exact fun _ => rfl
              simp only [List.nil_append, List.cons_append, Nat.reduceAdd]
              refine wpInv_det (by kernel_rfl) (by kernel_rfl) ?_
              apply Exists.intro
              refine ⟨?_, ?_, ?_⟩
              · intro U W hC hH
                obtain ⟨hc1, hf1⟩ := bcell hC
                simp only [HypsU, predsOf, Region.binds, List.filterMap_cons, List.filterMap_nil, if_true, List.nil_append, List.cons_append, List.getD_cons_zero, List.getD_cons_succ] at hH
                simp only [fillPuts, Act.put, List.setIfInBounds_toArray, List.set_cons_zero, List.set_cons_succ, Nat.reduceAdd]
                go_wp2_with fail
                refine ⟨rfl, rfl, by (repeat' (first | (with_reducible exact Below.refl _ _) | (with_reducible assumption) | (with_reducible refine Below.alloc ?_ ?_ _) | (with_reducible refine below_grew ?_ ?_ _) | (with_reducible refine Below.setCell ?_ ?_ _) | (with_reducible refine Below.drew ?_) | (with_reducible refine below_drewN ?_ _) | omega | (simp; done) | (simp; omega))), ?_⟩
                conv => lhs; whnf
                try rfl
              · exact fun _ => rfl
              simp only [List.nil_append, List.cons_append, Nat.reduceAdd]
              refine wpInv_det (by kernel_rfl) (by kernel_rfl) ?_
              apply Exists.intro
              refine ⟨?_, ?_, ?_⟩
              · intro U W hC hH
                obtain ⟨hc1, hf1⟩ := bcell hC
                simp only [HypsU, predsOf, Region.binds, List.filterMap_cons, List.filterMap_nil, if_true, List.nil_append, List.cons_append, List.getD_cons_zero, List.getD_cons_succ] at hH
                simp only [fillPuts, Act.put, List.setIfInBounds_toArray, List.set_cons_zero, List.set_cons_succ, Nat.reduceAdd]
                go_wp2_with fail
                refine ⟨rfl, rfl, by (repeat' (first | (with_reducible exact Below.refl _ _) | (with_reducible assumption) | (with_reducible refine Below.alloc ?_ ?_ _) | (with_reducible refine below_grew ?_ ?_ _) | (with_reducible refine Below.setCell ?_ ?_ _) | (with_reducible refine Below.drew ?_) | (with_reducible refine below_drewN ?_ _) | omega | (simp; done) | (simp; omega))), ?_⟩
                conv => lhs; whnf
                try rfl
              · exact fun _ => rfl
              simp only [List.nil_append, List.cons_append, Nat.reduceAdd]
              refine wpInv_det (by kernel_rfl) (by kernel_rfl) ?_
              apply Exists.intro
              refine ⟨?_, ?_, ?_⟩
              · intro U W hC hH
                obtain ⟨hc1, hf1⟩ := bcell hC
                simp only [HypsU, predsOf, Region.binds, List.filterMap_cons, List.filterMap_nil, if_true, List.nil_append, List.cons_append, List.getD_cons_zero, List.getD_cons_succ] at hH
                simp only [fillPuts, Act.put, List.setIfInBounds_toArray, List.set_cons_zero, List.set_cons_succ, Nat.reduceAdd]
                go_wp2_with fail
                refine ⟨rfl, rfl, by (repeat' (first | (with_reducible exact Below.refl _ _) | (with_reducible assumption) | (with_reducible refine Below.alloc ?_ ?_ _) | (with_reducible refine below_grew ?_ ?_ _) | (with_reducible refine Below.setCell ?_ ?_ _) | (with_reducible refine Below.drew ?_) | (with_reducible refine below_drewN ?_ _) | omega | (simp; done) | (simp; omega))), ?_⟩
                conv => lhs; whnf
                try rfl
              · exact fun _ => rfl
              simp only [List.nil_append, List.cons_append, Nat.reduceAdd]
              refine wpInv_det (by kernel_rfl) (by kernel_rfl) ?_
              apply Exists.intro
              refine ⟨?_, ?_, ?_⟩
              · intro U W hC hH
                obtain ⟨hc1, hf1⟩ := bcell hC
                simp only [HypsU, predsOf, Region.binds, List.filterMap_cons, List.filterMap_nil, if_true, List.nil_append, List.cons_append, List.getD_cons_zero, List.getD_cons_succ] at hH
                simp only [fillPuts, Act.put, List.setIfInBounds_toArray, List.set_cons_zero, List.set_cons_succ, Nat.reduceAdd]
                go_wp2_with fail
                refine ⟨rfl, rfl, by (repeat' (first | (with_reducible exact Below.refl _ _) | (with_reducible assumption) | (with_reducible refine Below.alloc ?_ ?_ _) | (with_reducible refine below_grew ?_ ?_ _) | (with_reducible refine Below.setCell ?_ ?_ _) | (with_reducible refine Below.drew ?_) | (with_reducible refine below_drewN ?_ _) | omega | (simp; done) | (simp; omega))), ?_⟩
                conv => lhs; whnf
                try rfl
              · exact fun _ => rfl
              simp only [List.nil_append, List.cons_append, Nat.reduceAdd]
              refine wpInv_det (by kernel_rfl) (by kernel_rfl) ?_
              apply Exists.intro
              refine ⟨?_, ?_, ?_⟩
              · intro U W hC hH
                obtain ⟨hc1, hf1⟩ := bcell hC
                simp only [HypsU, predsOf, Region.binds, List.filterMap_cons, List.filterMap_nil, if_true, List.nil_append, List.cons_append, List.getD_cons_zero, List.getD_cons_succ] at hH
                simp only [fillPuts, Act.put, List.setIfInBounds_toArray, List.set_cons_zero, List.set_cons_succ, Nat.reduceAdd]
                go_wp2_with fail
                refine ⟨rfl, rfl, by (repeat' (first | (with_reducible exact Below.refl _ _) | (with_reducible assumption) | (with_reducible refine Below.alloc ?_ ?_ _) | (with_reducible refine below_grew ?_ ?_ _) | (with_reducible refine Below.setCell ?_ ?_ _) | (with_reducible refine Below.drew ?_) | (with_reducible refine below_drewN ?_ _) | omega | (simp; done) | (simp; omega))), ?_⟩
                conv => lhs; whnf
                try rfl
              · exact fun _ => rfl
              simp only [List.nil_append, List.cons_append, Nat.reduceAdd]
              refine wpInv_det (by kernel_rfl) (by kernel_rfl) ?_
              apply Exists.intro
              refine ⟨?_, ?_, ?_⟩
              · intro U W hC hH
                obtain ⟨hc1, hf1⟩ := bcell hC
                simp only [HypsU, predsOf, Region.binds, List.filterMap_cons, List.filterMap_nil, if_true, List.nil_append, List.cons_append, List.getD_cons_zero, List.getD_cons_succ] at hH
                simp only [fillPuts, Act.put, List.setIfInBounds_toArray, List.set_cons_zero, List.set_cons_succ, Nat.reduceAdd]
                go_wp2_with fail
                refine ⟨rfl, rfl, by (repeat' (first | (with_reducible exact Below.refl _ _) | (with_reducible assumption) | (with_reducible refine Below.alloc ?_ ?_ _) | (with_reducible refine below_grew ?_ ?_ _) | (with_reducible refine Below.setCell ?_ ?_ _) | (with_reducible refine Below.drew ?_) | (with_reducible refine below_drewN ?_ _) | omega | (simp; done) | (simp; omega))), ?_⟩
                conv => lhs; whnf
                try rfl
              · exact fun _ => rfl
              simp only [List.nil_append, List.cons_append, Nat.reduceAdd]
              refine wpInv_det (by kernel_rfl) (by kernel_rfl) ?_
              apply Exists.intro
              refine ⟨?_, ?_, ?_⟩
              · intro U W hC hH
                obtain ⟨hc1, hf1⟩ := bcell hC
                simp only [HypsU, predsOf, Region.binds, List.filterMap_cons, List.filterMap_nil, if_true, List.nil_append, List.cons_append, List.getD_cons_zero, List.getD_cons_succ] at hH
                simp only [fillPuts, Act.put, List.setIfInBounds_toArray, List.set_cons_zero, List.set_cons_succ, Nat.reduceAdd]
                go_wp2_with fail
                refine ⟨rfl, rfl, by (repeat' (first | (with_reducible exact Below.refl _ _) | (with_reducible assumption) | (with_reducible refine Below.alloc ?_ ?_ _) | (with_reducible refine below_grew ?_ ?_ _) | (with_reducible refine Below.setCell ?_ ?_ _) | (with_reducible refine Below.drew ?_) | (with_reducible refine below_drewN ?_ _) | omega | (simp; done) | (simp; omega))), ?_⟩
                conv => lhs; whnf
                try rfl
              · exact fun _ => rfl
              simp only [List.nil_append, List.cons_append, Nat.reduceAdd]
              refine wpInv_det (by kernel_rfl) (by kernel_rfl) ?_
              apply Exists.intro
              refine ⟨?_, ?_, ?_⟩
              · intro U W hC hH
                obtain ⟨hc1, hf1⟩ := bcell hC
                simp only [HypsU, predsOf, Region.binds, List.filterMap_cons, List.filterMap_nil, if_true, List.nil_append, List.cons_append, List.getD_cons_zero, List.getD_cons_succ] at hH
                simp only [fillPuts, Act.put, List.setIfInBounds_toArray, List.set_cons_zero, List.set_cons_succ, Nat.reduceAdd]
                go_wp2_with fail
                refine ⟨rfl, rfl, by (repeat' (first | (with_reducible exact Below.refl _ _) | (with_reducible assumption) | (with_reducible refine Below.alloc ?_ ?_ _) | (with_reducible refine below_grew ?_ ?_ _) | (with_reducible refine Below.setCell ?_ ?_ _) | (with_reducible refine Below.drew ?_) | (with_reducible refine below_drewN ?_ _) | omega | (simp; done) | (simp; omega))), ?_⟩
                conv => lhs; whnf
                try rfl
              · exact fun _ => rfl
              simp only [List.nil_append, List.cons_append, Nat.reduceAdd]
              simp only [List.nil_append, List.cons_append, Nat.reduceAdd, fillPuts, Act.put, List.setIfInBounds_toArray, List.set_cons_zero, List.set_cons_succ]
              rintro U W2 hC ⟨h0, h1, h2, h3, h4, h5, h6, h7, h8, h9, h10, h11, h12, -⟩ -
              simp only [h0, h1, h2, h3, h4, h5, h6, h7, h8, h9, h10, h11, h12]
              clear h0 h1 h2 h3 h4 h5 h6 h7 h8 h9 h10 h11 h12
              have hls9 := HLS8.out.keep hC
              have HS9 := Lib.hid (Kd.R_below HS8.out hC)
              have hz9 := Nat.le_trans hz8 hC.size
              have q0 := ag_cell hls9.st (k * 5 + b) (by omega)
              have q1 := (block_facts hls9.st).2.1 (k * 5 + b)
              have HLS9 := Lib.hid hls9
              clear hC r0 r1 hls9 HLS8 HS8
              go_wp2_with fail
              go_roundw
              case rel =>
                have ho := only_setCell W2 ⟨B, k * 5 + b, none⟩ (.int .i64 (max y 2 - 2))
                have hbx := ag_store HLS9.out.st (k * 5 + b) (by omega) (max y 2 - 2)
                rw [show kS (k * 5 + b) = .i64 from by unfold kS; rw [if_pos (by omega)]] at hbx
                refine ⟨b + 1, by omega, rfl, (HLS9.out.only ho hbx).ext (fun j hj => ?_), R_only HS9.out ho (show B < V.heap.size by omega), by rw [ho.size]; exact hz9⟩
                unfold updI eTo
                by_cases e : j = k * 5 + b
                · rw [if_pos e, if_pos (by omega), e, HY.out]
                · rw [if_neg e]
                  by_cases e2 : k * 5 ≤ j ∧ j < k * 5 + b
                  · rw [if_pos e2, if_pos (by omega)]
                  · rw [if_neg e2, if_neg (by omega)]
              case measure => simp [intOf]; omega
            · have hlt3' : ¬ (b : Int) < nb := by omega
              obtain rfl : b = nb := by omega
              go_wp2_with fail
              go_roundw
              case rel =>
                refine ⟨k + 1, by omega, rfl, HLS8.out.ext (fun j hj => ?_), ?_, hz8⟩
                · rw [← HF5.out]
                  exact eTo_lose n b L st k X HXl.out (by omega) (by omega) (by omega) HX.out j
                · have := HS8.out
                  unfold soundsK at this ⊢
                  rw [List.range_succ, List.map_append]
                  rw [← HX.out] at this
                  exact this
              case measure => simp [intOf]; omega
    · have hlt' : ¬ (k : Int) < c := by omega
      obtain rfl : k = c := by omega
      have m1 := HLS.out.m1
      have d1 := ag_cell HLS.out.st 140 (by omega)
      rw [show kS 140 = .u32 from rfl, loseTo_high n nb L st (by omega) (by omega) 140 (by omega) k (by omega)] at d1
      go_wp2_with (go_at_call 44; refine (fix_Lcg.calls _ _ _ rfl).mono ?_; rintro e wl ⟨rfl, hdl⟩; have hls10 := HLS.out.keep hdl.below; have q0 := ag_cell hls10.st 140 (by omega); have q1 := ag_cell hls10.st 141 (by omega); have q2 := (block_facts hls10.st).2.1 140; have q3 := (block_facts hls10.st).2.1 141; have HLS10 := Lib.hid hls10; have HS10 := Lib.hid (Kd.R_below HS.out hdl.below); have hz10 := Nat.le_trans hsz hdl.below.size; clear hls10 hdl)
      have ho := (only_setCell wl ⟨B, 140, none⟩ (.int .u32 ((st 140 * 1664525 + 1013904223) % 4294967296))).setCell (.int .i64 (min L 1000)) (p := ⟨B, 141, none⟩)
      have hbx := ag_store (ag_store HLS10.out.st 140 (by omega) ((st 140 * 1664525 + 1013904223) % 4294967296)) 141 (by omega) (min L 1000)
      have hls11 := (HLS10.out.only ho hbx).ext (f' := loseF s k st) (fun j hj => by
        unfold loseF updI
        rw [HLo.out, Hn.out, Hnb.out]
        by_cases e1 : j = 141
        · rw [if_pos e1, if_neg (by omega), if_pos e1]
        · rw [if_neg e1]
          by_cases e2 : j = 140
          · rw [if_pos e2, if_pos e2]
          · rw [if_neg e2, if_neg e2, if_neg e1]; rfl)
      refine cut_world (fun W => LS w B (loseF s k st) s k W ∧ Kd.R (Kd.slice 55 (Kd.int .i16)) 35 W V.heap.size (fun _ => True) u8 (soundsK st n L k) ∧ V.heap.size ≤ W.heap.size) ⟨hls11, R_only HS10.out ho (show B < V.heap.size by omega), by rw [ho.size]; exact hz10⟩ ?_
      clear ho hbx hls11 q0 q1 q2 q3 HLS10 HS10 hz10 d1 m1 HLS HS
      rintro Z ⟨hls, hS, hz⟩
      obtain ⟨A3, c3, rfl, hc3, hC3⟩ := Kd.R_reads hS
      have HLS := Lib.hid hls
      have HC3 := Lib.hid hC3
      have hmx := Lib.hid (fun W hC => state_mix.calls 200 A3 c3 (soundsK st n L k) n (mixF (soundsK st n L k) n) W hC hc3 (mix_f _ n (soundsK_len st n L k) (by simp [soundsK]; omega) (by omega)))
      clear hls hS hC3
      refine wp_region_inv [] (fun W => Below Z.heap.size Z W) (fun W W' => Below W.heap.size W W') 4 (by kernel_rfl) (by kernel_rfl) (by kernel_rfl) ((Below.refl _ _).drew) (fun W W' h h' => h.trans (h'.mono h.size)) (fun _ _ h => h.size) ?_
      simp only [List.take_succ_cons, List.take_zero, List.drop_succ_cons, List.drop_zero]
      refine wpInv_det (by kernel_rfl) (by kernel_rfl) ?_
      apply Exists.intro
      refine ⟨?_, ?_, ?_⟩
      · intro U W hC hH
        obtain ⟨hc1, hf1⟩ := bcell hC
        simp only [HypsU, predsOf, Region.binds, List.filterMap_cons, List.filterMap_nil, if_true, List.nil_append, List.cons_append, List.getD_cons_zero, List.getD_cons_succ] at hH
        simp only [fillPuts, Act.put, List.setIfInBounds_toArray, List.set_cons_zero, List.set_cons_succ, Nat.reduceAdd]
        go_wp2_with (refine wpList_load_row rfl St _ rfl B rfl _ (ag kS 142 (loseF s k st)) (0, 0) _ (HLS.out.keep hC).st Tryd.underlying29 rfl ?hin ?_; (case hin => exact infoS_ag _))
        refine ⟨rfl, rfl, by (repeat' (first | (with_reducible exact Below.refl _ _) | (with_reducible assumption) | (with_reducible refine Below.alloc ?_ ?_ _) | (with_reducible refine below_grew ?_ ?_ _) | (with_reducible refine Below.setCell ?_ ?_ _) | (with_reducible refine Below.drew ?_) | (with_reducible refine below_drewN ?_ _) | omega | (simp; done) | (simp; omega))), ?_⟩
        conv => lhs; whnf
        try rfl
      · exact fun _ => rfl
      simp only [List.nil_append, List.cons_append, Nat.reduceAdd]
      refine wpInv_det (by kernel_rfl) (by kernel_rfl) ?_
      apply Exists.intro
      refine ⟨?_, ?_, ?_⟩
      · intro U W hC hH
        obtain ⟨hc1, hf1⟩ := bcell hC
        simp only [HypsU, predsOf, Region.binds, List.filterMap_cons, List.filterMap_nil, if_true, List.nil_append, List.cons_append, List.getD_cons_zero, List.getD_cons_succ] at hH
        simp only [fillPuts, Act.put, List.setIfInBounds_toArray, List.set_cons_zero, List.set_cons_succ, Nat.reduceAdd]
        go_wp2_with fail
        refine ⟨rfl, rfl, by (repeat' (first | (with_reducible exact Below.refl _ _) | (with_reducible assumption) | (with_reducible refine Below.alloc ?_ ?_ _) | (with_reducible refine below_grew ?_ ?_ _) | (with_reducible refine Below.setCell ?_ ?_ _) | (with_reducible refine Below.drew ?_) | (with_reducible refine below_drewN ?_ _) | omega | (simp; done) | (simp; omega))), ?_⟩
        conv => lhs; whnf
        try rfl
      · exact fun _ => rfl
      simp only [List.nil_append, List.cons_append, Nat.reduceAdd]
      refine wpInv_det (by kernel_rfl) (by kernel_rfl) ?_
      apply Exists.intro
      refine ⟨?_, ?_, ?_⟩
      · intro U W hC hH
        obtain ⟨hc1, hf1⟩ := bcell hC
        simp only [HypsU, predsOf, Region.binds, List.filterMap_cons, List.filterMap_nil, if_true, List.nil_append, List.cons_append, List.getD_cons_zero, List.getD_cons_succ] at hH
        simp only [fillPuts, Act.put, List.setIfInBounds_toArray, List.set_cons_zero, List.set_cons_succ, Nat.reduceAdd]
        go_wp2_with fail
        refine ⟨rfl, rfl, by (repeat' (first | (with_reducible exact Below.refl _ _) | (with_reducible assumption) | (with_reducible refine Below.alloc ?_ ?_ _) | (with_reducible refine below_grew ?_ ?_ _) | (with_reducible refine Below.setCell ?_ ?_ _) | (with_reducible refine Below.drew ?_) | (with_reducible refine below_drewN ?_ _) | omega | (simp; done) | (simp; omega))), ?_⟩
        conv => lhs; whnf
        try rfl
      · exact fun _ => rfl
      simp only [List.nil_append, List.cons_append, Nat.reduceAdd]
      refine ⟨fun U W => ∃ v, U 3 = v ∧ Kd.R (Kd.int .i16) 55 W Z.heap.size (fun _ => True) v (mixF (soundsK st n L k) n), fun _ _ => rfl, ?_, ?_, ?_⟩
      · rintro U W W' hC hT ⟨v, h0, hv⟩
        exact ⟨v, h0, Kd.R_below hv hT⟩
      · intro U W hC hH
        simp only [HypsU, predsOf, Region.binds, List.filterMap_cons, List.filterMap_nil, if_true, List.nil_append, List.cons_append, List.getD_cons_zero, List.getD_cons_succ] at hH
        simp only [fillPuts, Act.put, List.setIfInBounds_toArray, List.set_cons_zero, List.set_cons_succ, Nat.reduceAdd]
        go_wp2_with fail
        refine (hmx.out _ (Kd.C_below HC3.out hC)).mono ?_
        rintro e W' ⟨v, rfl, hv, hb⟩
        go_wp2_with fail
        refine ⟨rfl, rfl, hb, ⟨v, updU_eq _ _ _, Kd.R_lower hv hC.size⟩, fun h => by cases h⟩
      simp only [List.nil_append, List.cons_append, Nat.reduceAdd, fillPuts, Act.put, List.setIfInBounds_toArray, List.set_cons_zero, List.set_cons_succ]
      rintro U W hC ⟨h0, h1, h2, ⟨v, h3, hv⟩, -⟩ -
      simp only [h0, h1, h2, h3]
      clear h0 h1 h2 h3
      have hls := HLS.out.keep hC
      have hzW := Nat.le_trans hz hC.size
      have HLW := Lib.hid hls
      have HV := Lib.hid hv
      clear hls hC hv hmx
      go_wp2_with (refine wpList_store_mid rfl St _ _ rfl (B + 1 + 1) 0 (ag kS 142 (loseF s k st)) rfl rfl ?hth ?hin ?hon ?_; (case hth => exact there_row HLW.out.rz _ (zeroS_le _)); (case hin => exact infoS_ag _); (case hon => exact ag_one kS 142 _))
      have ho := only_setCells W (B + 1 + 1) 0 (ag kS 142 (loseF s k st)).toList
      have q1 := cells_all HLW.out.rz (N := 142) zeroS_size (cs := ag kS 142 (loseF s k st)) (ag_size _ _ _)
      have hfin : Below w.heap.size w (W.setCells (B + 1 + 1) 0 (ag kS 142 (loseF s k st)).toList) := ho.below (HLW.out.below' (Nat.le_of_eq HBd.out)) (by rw [HBd.out]; omega)
      refine bodyPost_ret (v := .tuple #[.agg (ag kS 142 (loseF s k st)), v]) ?_ rfl ⟨v, rfl, ?_, hfin⟩
      · exact results_row_tmp rfl _ _ (B + 1 + 1) _ _ _ _ v rfl rfl q1 Tryd.underlying29 rfl (infoS_ag _)
      · rw [HBd.out]
        have := R_lowT (R_only HV.out ho (by omega)) (show B ≤ Z.heap.size by omega)
        rw [← Hn.out, ← HLo.out] at this
        exact this
end Go.Proofs.YtmcjbejccelagaaDoor
end

section
namespace Go.Proofs.YtmcjbejccelagaaDoor
open Go.RowKit Go.BigFrame Go.Proofs.YtmcjbejccelagaaDoorW.PrintWords Go.Proofs.YtmcjbejccelagaaDoorW.PrintLast Go.Proofs.YtmcjbejccelagaaDoorW.PrintMore
open PStateLoses RStateLoses
set_option linter.unusedSimpArgs false
set_option linter.unusedVariables false
theorem alloc_secondOf (w : World) (o p : Obj) : ((w.alloc o).alloc p).heap[w.heap.size + 1]? = some p := by
  have := alloc_at (w.alloc o) p
  rw [show (w.alloc o).heap.size = w.heap.size + 1 from by simp] at this
  exact this
theorem refSat16 (x : Int) : spinetref01_Sat.f 40 x 16 = some (sat16 x) := by
  unfold spinetref01_Sat.f
  rw [show spinetref01_Bits.f 16 1 63 = some 16 from by decide +kernel]
  simp only [Option.bind_some]
  rw [show spinetref01_Pow.f 40 (wrap64 (16 - 1)) = some 32768 from by decide +kernel]
  simp only [Option.bind_some]
  rw [show wrap64 (-32768) = -32768 from by decide +kernel, show wrap64 (32768 - 1) = 32767 from by decide +kernel]
  unfold spinetref01_Held.f sat16
  split
  · simp; omega
  · split
    · simp; omega
    · simp; omega
theorem refHeld1000 (x : Int) : spinetref01_Held.f x 0 1000 = some (min (max x 0) 1000) := by
  unfold spinetref01_Held.f
  split
  · simp; omega
  · split
    · simp; omega
    · simp; omega
theorem refLcg (x : Int) (h : 0 ≤ x ∧ x ≤ 4294967295) : spinetref01_Lcg.f x = some ((x * 1664525 + 1013904223) % 4294967296) := by
  unfold spinetref01_Lcg.f
  simp only [IntKind.wrap_u64]
  rw [Int.tmod_eq_emod_of_nonneg (by omega)]
  congr 1
  omega
theorem refN26 (s : Int) (hs : 0 ≤ s ∧ s ≤ 2) : spinetref05_N.f s = some ((nOf s : Nat) : Int) := by
  rcases (show s = 0 ∨ s = 1 ∨ s = 2 by omega) with h | h | h <;> subst h <;> rfl
theorem refBands26 (s : Int) (hs : 0 ≤ s ∧ s ≤ 2) : spinetref05_Bands.f s = some ((nbOf s : Nat) : Int) := by
  rcases (show s = 0 ∨ s = 1 ∨ s = 2 by omega) with h | h | h <;> subst h <;> decide +kernel
theorem info_sl64 : (Tryd.prog.info? 43).map (fun i => (i.zero, i.size, i.bytes)) = some (some (.slice none 0 0), 1, 24) := by kernel_rfl
theorem infoI64 : (Tryd.prog.info? 2).map (fun i => (i.zero, i.size, i.bytes)) = some (some (.int .i64 0), 1, 8) := by kernel_rfl
theorem bx_rangeK {B T k N f} {w : World} (h : Bx B T k N f w) (κ : IntKind) (o n : Nat) (hN : o + n ≤ N) (hk : ∀ j, o ≤ j → j < o + n → k j = κ) : w.rangeAt B o (ag (fun _ => κ) n (fun i => f (o + i))).toList := by
  intro j v hj
  rw [ag_toList] at hj
  have hj' : j < n := by
    have := (List.getElem?_eq_some_iff.1 hj).1
    simpa using this
  simp only [List.getElem?_map, List.getElem?_range hj', Option.map_some, Option.some.injEq] at hj
  subst hj
  rw [ag_cell h (o + j) (by omega), hk (o + j) (by omega) (by omega)]
theorem ag_listK (κ : IntKind) (n : Nat) (g : Nat → Int) : (ag (fun _ => κ) n g).toList = ((List.range n).map g).map (Value.int κ) := by rw [ag_toList, List.map_map]; rfl
theorem R_apart {α : Type} {d : Kd α} {e base b e0 s0 n0 : Nat} {w W : World} {v u : Value} {xs : List α} {ys : List Value} (h : d.R e w base (fun _ => True) v xs) (ho : W.ownsRow b e0 s0 u n0 ys) (hW : W.heap.size ≤ base) : d.R e w base (fun k => True ∧ some k ≠ u.ownBlock) v xs :=
  Kd.R_mono (Kd.R_bound h) (fun k hk => ⟨trivial, fun e => by have := own_lt ho k e.symm; have := hk.2.1; omega⟩)
theorem R_fix {α : Type} {d : Kd α} {e base m : Nat} {w : World} {v : Value} {xs : List α} (h : d.R e w base (fun _ => True) v xs) (hV : m ≤ base) : d.R e w base (fun k => m ≤ k ∧ k < w.heap.size) v xs :=
  Kd.R_mono (Kd.R_bound h) (fun k hk => ⟨Nat.le_trans hV hk.2.1, hk.2.2.1⟩)
theorem R_mvB {α : Type} {d : Kd α} {e base m n : Nat} {w w2 : World} {v : Value} {xs : List α} (h : d.R e w base (fun k => m ≤ k ∧ k < n) v xs) (hb : Below n w w2) : d.R e w2 base (fun k => m ≤ k ∧ k < n) v xs :=
  Kd.R_move h (fun k hk => hb.block k hk.2)
theorem R_mvO {α : Type} {d : Kd α} {e base m n B : Nat} {w w2 : World} {v : Value} {xs : List α} (h : d.R e w base (fun k => m ≤ k ∧ k < n) v xs) (hb : Only B w w2) (hB : B < m) : d.R e w2 base (fun k => m ≤ k ∧ k < n) v xs :=
  Kd.R_move h (fun k hk => hb.block k (by omega))
theorem R_C {α : Type} {d : Kd α} {e base m c : Nat} {ok : Nat → Prop} {w : World} {A : Option Addr} {xs : List α} (h : d.R e w base ok (.slice A m c) xs) : d.C w A xs.length xs ∧ xs.length ≤ c := by
  obtain ⟨A', c', h1, h2, h3⟩ := Kd.R_reads h
  injection h1 with h4 h5 h6
  subst h4 h6
  exact ⟨h3, h2⟩
theorem bx_there {B T k N f} {w : World} (h : Bx B T k N f w) (o n : Nat) (hN : o + n ≤ N) : w.there B o n := by
  intro j hj
  refine ⟨?_, (block_facts h).2.1 _⟩
  rw [ag_cell h (o + j) (by omega)]
  rfl
/-- The call's frame: the state, the result. -/
structure LR (w : World) (B : Nat) (f : Nat → Int) (W : World) : Prop where
  below : Below B w W
  size : B + 1 < W.heap.size
  st : Bx B Rt kP 142 f W
  rz : W.heap[B + 1]? = some (.cells Tryd.zeroCells42 Rt (0, 0))
theorem LR.keepB {w B f} {C : Nat} {W W' : World} (h : LR w B f W) (hb : Below C W W') (hC : B + 1 < C) : LR w B f W' := by
  have hs := h.size
  exact ⟨h.below.trans (hb.mono (by omega)), Nat.lt_of_lt_of_le hs hb.size, (hb.block _ (by omega)).trans h.st, (hb.block _ (by omega)).trans h.rz⟩
theorem LR.keep {w B f} {W W' : World} (h : LR w B f W) (hb : Below W.heap.size W W') : LR w B f W' := h.keepB hb h.size
theorem LR.only {w B f} {f' : Nat → Int} {W W' : World} (h : LR w B f W) (ho : Only B W W') (hf : Bx B Rt kP 142 f' W') : LR w B f' W' :=
  ⟨ho.below h.below (Nat.le_refl _), by rw [ho.size]; exact h.size, hf, (ho.block _ (by omega)).trans h.rz⟩
theorem LR.ext {w B f} {f' : Nat → Int} {W : World} (h : LR w B f W) (he : ∀ i, i < 142 → f i = f' i) : LR w B f' W :=
  ⟨h.below, h.size, by have := h.st; unfold Bx at this ⊢; rwa [ag_ext kP 142 f f' he] at this, h.rz⟩
theorem kP_i (j : Nat) (h : j ≠ 140) : kP j = .i64 := by unfold kP; rw [if_neg h]
/-- A channel's tail, so many of it nought. -/
def tailTo (f : Nat → Int) (k i : Nat) : Nat → Int := fun j => if 10 + k * 32 ≤ j ∧ j < 10 + k * 32 + i then 0 else f j
theorem eTo_loseR (n nb : Nat) (L : Int) (st : Nat → Int) (k : Nat) (X : List Int) (hX : X.length = n) (hn : n ≤ 32) (hb : nb ≤ 5) (hk : k < 2) (hm : madeF (histL st n k) L = X) (j : Nat) :
    eTo (updI (overF (tailTo (loseTo n nb L st k) k n) (74 + k * 32) ((List.range 32).map (putTo (fun i => tailTo (loseTo n nb L st k) k n (74 + k * 32 + i)) X X.length))) (138 + k) 0) k nb j = loseTo n nb L st (k + 1) j := by
  rw [← eTo_lose n nb L st k X hX hn hb hk hm j]
  have hl : ((List.range 32).map (putTo (fun i => tailTo (loseTo n nb L st k) k n (74 + k * 32 + i)) X X.length)).length = 32 := by simp
  have key : ∀ j, updI (overF (tailTo (loseTo n nb L st k) k n) (74 + k * 32) ((List.range 32).map (putTo (fun i => tailTo (loseTo n nb L st k) k n (74 + k * 32 + i)) X X.length))) (138 + k) 0 j
      = updI (overF (overF (loseTo n nb L st k) (74 + k * 32) X) (10 + k * 32) (List.replicate n 0)) (138 + k) 0 j := by
    intro j
    unfold updI
    by_cases h3 : j = 138 + k
    · rw [if_pos h3, if_pos h3]
    · rw [if_neg h3, if_neg h3]
      unfold overF
      rw [hl, List.length_replicate, hX]
      by_cases h1 : 10 + k * 32 ≤ j ∧ j < 10 + k * 32 + n
      · rw [if_neg (by omega), if_pos h1]
        simp [tailTo, h1, List.getD_eq_getElem?_getD, List.getElem?_replicate, show j - (10 + k * 32) < n from by omega]
      · rw [if_neg h1]
        by_cases h2 : 74 + k * 32 ≤ j ∧ j < 74 + k * 32 + 32
        · rw [if_pos h2, List.getD_eq_getElem?_getD, List.getElem?_map, List.getElem?_range (by omega)]
          rw [Option.map_some, Option.getD_some]
          unfold putTo
          by_cases h4 : j - (74 + k * 32) < n
          · rw [if_pos h4, if_pos (by omega)]
          · rw [if_neg h4, if_neg (by omega)]
            show tailTo _ k n (74 + k * 32 + (j - (74 + k * 32))) = _
            rw [show 74 + k * 32 + (j - (74 + k * 32)) = j from by omega]
            unfold tailTo
            rw [if_neg h1]
        · rw [if_neg h2, if_neg (by omega)]
          unfold tailTo
          rw [if_neg h1]
  unfold eTo
  rw [key j]
set_option maxHeartbeats 4000000 in
set_option maxRecDepth 100000 in
theorem refLose_any (st : Nat → Int) (s : Int) (c : Nat) (hs : 0 ≤ s ∧ s ≤ 2) (hc : 1 ≤ c ∧ c ≤ 2) (hst0 : ∀ j, j < 10 → st j ≤ 9223372036854775807) (hsd : 0 ≤ st 140 ∧ st 140 ≤ 4294967295) (w : World) :
    Calls Tryd.prog 15 #[.agg (ag kP 142 st), .int .i64 s, .int .i64 c] w fun e w' => ∃ v, e = .returned (.tuple #[.agg (ag kP 142 (loseF s c st)), v]) ∧
      Kd.R (Kd.int .i64) 2 w' w.heap.size (fun _ => True) v (mixF (soundsF s st c) (nOf s)) ∧ Below w.heap.size w w' := by
  have hst := Lib.hid hst0
  have hN := Lib.hid (fun w => spinetref05_N.calls s _ w (refN26 s hs))
  have hBn := Lib.hid (fun w => spinetref05_Bands.calls s _ w (refBands26 s hs))
  obtain ⟨n, hn⟩ : ∃ n, nOf s = n := ⟨_, rfl⟩
  obtain ⟨nb, hnb⟩ : ∃ nb, nbOf s = nb := ⟨_, rfl⟩
  rw [hn] at hN
  rw [hnb] at hBn
  have HL := Lib.hid (nOf_len s)
  rw [hn] at HL
  have hn32 : 8 ≤ n ∧ n ≤ 32 := by have := HL.out; unfold Len at this; omega
  have hnb5 : nb ≤ 5 := by unfold nbOf at hnb; omega
  have Hn := Lib.hid hn
  have Hnb := Lib.hid hnb
  have Hsd := Lib.hid hsd
  have hlg := Lib.hid (fun w => spinetref01_Lcg.calls (st 140) _ w (refLcg _ Hsd.out))
  have hhl := Lib.hid (fun x w => spinetref01_Held.calls x 0 1000 _ w (refHeld1000 x))
  have e141 : (ag kP 142 st)[141]? = some (.int .i64 (st 141)) := ag_get _ _ _ _ (by decide)
  clear hn hnb hst0 hsd
  go_enter Tryd.func15, Tryd.ntmps15
  go_wp2_with (first | (go_at_call 46; refine (hN.out _).mono ?_; rintro e wa ⟨rfl, hd⟩; obtain ⟨x1, rfl⟩ := below_as_grew hd.below; clear hd) | (go_at_call 47; refine (hhl.out _ _).mono ?_; rintro e wa ⟨rfl, hd⟩; obtain ⟨x1, rfl⟩ := below_as_grew hd.below; clear hd))
  refine cut_world (fun V => LR w w.heap.size st V) ⟨by (repeat' (first | (with_reducible exact Below.refl _ _) | (with_reducible assumption) | (with_reducible refine Below.alloc ?_ ?_ _) | (with_reducible refine below_grew ?_ ?_ _) | (with_reducible refine Below.setCell ?_ ?_ _) | (with_reducible refine Below.drew ?_) | (with_reducible refine below_drewN ?_ _) | omega | (simp; done) | (simp; omega))), by simp; omega, (World.grew_block _ _ _ (by simp; omega)).trans (alloc_two _ _ _), (World.grew_block _ _ _ (by simp)).trans (alloc_secondOf _ _ _)⟩ ?_
  clear e141
  intro V hV
  generalize hBd : w.heap.size = B at *
  have HBd := Lib.hid hBd
  have HV := Lib.hid hV
  have hVs := hV.size
  clear hBd hV
  generalize hL : min (max (st 141) 0) 1000 + 1 = L
  have HLo := Lib.hid (show lossOf st = L from hL)
  clear hL
  go_wp2_with fail
  go_loopw [10, 11] (fun vs cnt wr => ∃ k : Nat, k ≤ c ∧ cnt = .int .i64 k ∧ LR w B (loseTo n nb L st k) wr ∧ Kd.R (Kd.slice 2 (Kd.int .i64)) 43 wr V.heap.size (fun _ => True) vs (soundsK st n L k) ∧ V.heap.size ≤ wr.heap.size) (fun _ cnt _ => c - (intOf cnt).toNat)
  case atStart => exact ⟨0, by omega, rfl, HV.out, Kd.R_nil _ _ _ _ _, Nat.le_refl _⟩
  case round =>
    obtain ⟨k, hk, rfl, hLS, hS, hsz⟩ := hrel
    have HLS := Lib.hid hLS
    have HS := Lib.hid hS
    have hws := hLS.size
    clear hLS hS
    by_cases hlt : k < c
    · have hlt' : (k : Int) < c := by omega
      have hk0 : (0 : Int) ≤ k := by omega
      have hk2 : (k : Int) < 2 := by omega
      have n0 : (0 : Int) ≤ n := by omega
      have n32 : (n : Int) ≤ 32 := by omega
      have hfi := Lib.hid (fun W => first_any (fun i => loseTo n nb L st k (74 + k * 32 + i)) n (by omega) W)
      have Hhist := Lib.hid (show ((List.range n).map fun i => loseTo n nb L st k (74 + k * 32 + i)) = histL st n k from loseTo_hist n nb L st k (by omega) hnb5 (by omega) k (Nat.le_refl _))
      rw [Hhist.out] at hfi
      have hrg := Lib.hid (bx_rangeK HLS.out.st .i64 (74 + k * 32) 32 (by omega) (fun j h1 h2 => kP_i j (by omega)))
      have i32a := Lib.hid (show (Tryd.prog.info? 38).map (·.size) = some 32 from by kernel_rfl)
      go_wp2_with (first | (refine wpList_load_mid rfl 38 _ rfl B (74 + k * 32) rfl _ _ hrg.out Tryd.underlying38 rfl ?hi ?_; (case hi => rw [Array.length_toList, ag_size]; exact i32a.out)) | (go_at_call 49; refine (hfi.out _).mono ?_; rintro e wf ⟨vf, rfl, hRf, hbf⟩; have HRF := Lib.hid hRf; have HBF := Lib.hid hbf; clear hRf hbf))
      obtain ⟨Af, cf, rfl, hcf, hCf⟩ := Kd.R_reads HRF.out
      refine (spinetref25_Made.calls 400 Af cf (histL st n k) L _ wf hCf hcf (refMade_f (histL st n k) (by rw [histL_len]; exact HL.out) L 400 (by omega))).mono ?_
      rintro e w1 ⟨v1, rfl, hR1, hb1⟩
      obtain ⟨X, hX⟩ : ∃ X, madeF (histL st n k) L = X := ⟨_, rfl⟩
      have hXl : X.length = n := by rw [← hX, madeF_len, histL_len]
      rw [hX] at hR1
      obtain ⟨A, cx, rfl, hcx, hCx⟩ := Kd.R_reads hR1
      have HX := Lib.hid hX
      have HXl := Lib.hid hXl
      have hls1 := (HLS.out.keep HBF.out).keep hb1
      have hS1 := Kd.R_below (Kd.R_below HS.out HBF.out) hb1
      have hwf : V.heap.size ≤ wf.heap.size := Nat.le_trans hsz HBF.out.size
      have hw1 : V.heap.size ≤ w1.heap.size := Nat.le_trans hwf hb1.size
      have HRX1 := Lib.hid (R_lowT hR1 hwf)
      have HLS1 := Lib.hid hls1
      have HS1 := Lib.hid hS1
      obtain ⟨inner, hin⟩ := Kd.R_own hS1
      have HIN := Lib.hid hin
      have hX32 : X.length ≤ 32 := by omega
      clear hX hXl hR1 hCx hb1 hls1 hS1 HLS HS hws HRF HBF hCf hin hrg hfi
      go_wp2_with fail
      go_loopw [13, 14] (fun vo cnt wr => ∃ i : Nat, i ≤ n ∧ cnt = .int .i64 i ∧ LR w B (tailTo (loseTo n nb L st k) k i) wr ∧ Kd.R (Kd.int .i64) 2 wr w1.heap.size (fun _ => True) vo ((X.take i).map sat16) ∧ Kd.R (Kd.int .i64) 2 wr V.heap.size (fun q => V.heap.size ≤ q ∧ q < w1.heap.size) (.slice A X.length cx) X ∧ Kd.R (Kd.slice 2 (Kd.int .i64)) 43 wr V.heap.size (fun q => V.heap.size ≤ q ∧ q < w1.heap.size) u10 (soundsK st n L k) ∧ w1.heap.size ≤ wr.heap.size) (fun _ cnt _ => n - (intOf cnt).toNat)
      case atStart => exact ⟨0, by omega, rfl, HLS1.out.ext (fun j hj => by unfold tailTo; rw [if_neg (by omega)]), Kd.R_nil _ _ _ _ _, R_fix HRX1.out (Nat.le_refl _), R_fix HS1.out (Nat.le_refl _), Nat.le_refl _⟩
      case round =>
        obtain ⟨i, hi, rfl, hls, hO, hRX, hS, hz⟩ := hrel
        have HLS := Lib.hid hls
        have HO := Lib.hid hO
        have HRX := Lib.hid hRX
        have HS := Lib.hid hS
        clear hls hO hRX hS
        by_cases hlt2 : i < n
        · have hlt2' : (i : Int) < n := by omega
          have hi0 : (0 : Int) ≤ i := by omega
          have hiX : i < X.length := by have := HXl.out; omega
          have hiX' : (i : Int) < X.length := by omega
          have hi32 : (i : Int) < 32 := by omega
          obtain ⟨ad, rfl, hcl⟩ := Kd.at_int (R_C HRX.out).1 i hi0 hiX'
          rw [rd_nat, Int.toNat_natCast] at hcl
          obtain ⟨hz1, hz2⟩ := madeF_bd (histL st n k) L i
          rw [HX.out] at hz1 hz2
          generalize hz : X.getD i 0 = z at *
          have HZ := Lib.hid hz
          have Hsat := Lib.hid (fun w => spinetref01_Sat.calls 40 z 16 _ w (refSat16 z))
          clear hz
          go_wp2_with (first | (go_at_call 50; refine (Hsat.out _).mono ?_; rintro e wg ⟨rfl, hbg⟩; have HBG := Lib.hid hbg.below; clear hbg) | ((with_reducible refine gate_builtin (b := .append) (xs := #[.tmp 40, .tmp 46]) rfl ?_); at_builtin; refine Kd.R_append (Kd.int .i64) (w0 := wr) w1.heap.size rfl (.tmp 40) (.tmp 46) 43 2 (.int .i64 0) 8 rfl Tryd.underlying43 infoI64 rfl (by decide) (by omega) u13 ((X.take i).map sat16) (sat16 z) [.int .i64 (sat16 z)] (fun _ => True) (fun _ => False) rfl rfl ?aP (fun _ hk => hk.elim) ?aF ?aO ?aB ?aS ?aL ?_; (case aP => exact rfl); (case aF => exact (fun _ _ => trivial)); (case aO => exact Kd.R_below HO.out HBG.out); (case aB => exact (HBG.out.mono (by assumption))); (case aS => exact Nat.le_trans (by assumption) HBG.out.size); (case aL => simp; omega); intro v2 w2 hO2 hB2 hgr hat; have HO2 := Lib.hid hO2; have HB2 := Lib.hid hB2; have HLS2 := Lib.hid (HLS.out.keepB hB2 (by have := HLS1.out.size; omega)); have q0 := ag_cell HLS2.out.st (10 + k * 32 + i) (by omega); have q1 := (block_facts HLS2.out.st).2.1 (10 + k * 32 + i); rw [kP_i _ (by omega)] at q0; clear hO2 hB2 hat))
          go_roundw
          case rel =>
            have ho := only_setCell w2 ⟨B, 10 + k * 32 + i, none⟩ (.int .i64 0)
            have hbx := ag_store HLS2.out.st (10 + k * 32 + i) (by omega) 0
            rw [kP_i _ (by omega)] at hbx
            refine ⟨i + 1, by omega, rfl, (HLS2.out.only ho hbx).ext (fun j hj => ?_), ?_, R_mvO (R_mvB HRX.out HB2.out) ho (show B < V.heap.size by omega), R_mvO (R_mvB HS.out HB2.out) ho (show B < V.heap.size by omega), ?_⟩
            · unfold updI tailTo
              by_cases e : j = 10 + k * 32 + i
              · rw [if_pos e, if_pos (by omega)]
              · rw [if_neg e]
                by_cases e2 : 10 + k * 32 ≤ j ∧ j < 10 + k * 32 + i
                · rw [if_pos e2, if_pos (by omega)]
                · rw [if_neg e2, if_neg (by omega)]
            · have e := HO2.out
              rw [← List.map_singleton (f := sat16), ← List.map_append, ← HZ.out, ← List.take_succ_eq_append_getElem' X i hiX] at e
              exact R_only e ho (show B < w1.heap.size by have := HLS1.out.size; omega)
            · rw [ho.size]; exact Nat.le_trans (by assumption) HB2.out.size
          case measure => simp [intOf]; omega
        · have hlt2' : ¬ (i : Int) < n := by omega
          obtain rfl : i = n := by omega
          have hXi := HXl.out
          rw [List.take_of_length_le (by omega)] at HO
          have hX0 : 0 < X.length := by omega
          have hXa : X.length ≤ i := by omega
          have hXb : i ≤ X.length := by omega
          clear hXi
          have hw2 : V.heap.size ≤ wr.heap.size := Nat.le_trans hw1 (by assumption)
          obtain ⟨A2, l2, c2, rfl⟩ : ∃ A2 l2 c2, u13 = .slice A2 l2 c2 := by
            obtain ⟨A2, c2, h⟩ := Kd.R_slice HO.out
            exact ⟨_, _, _, h⟩
          have hrg := Lib.hid (bx_rangeK HLS.out.st .i64 (74 + k * 32) 32 (by omega) (fun j h1 h2 => kP_i j (by omega)))
          obtain ⟨g, hg⟩ : ∃ g, putTo (fun i_1 => tailTo (loseTo i nb L st k) k i (74 + k * 32 + i_1)) X X.length = g := ⟨_, rfl⟩
          have hpu := Lib.hid (fun W hC => put_any (fun i_1 => tailTo (loseTo i nb L st k) k i (74 + k * 32 + i_1)) X A cx (by omega) W hC)
          rw [hg] at hpu
          have HG := Lib.hid hg
          clear hg
          go_wp2_with (first | (refine wpList_load_mid rfl 38 _ rfl B (74 + k * 32) rfl _ _ hrg.out Tryd.underlying38 rfl ?hi ?_; (case hi => rw [Array.length_toList, ag_size]; exact i32a.out)) | (go_at_call 51; refine (hpu.out _ (R_C HRX.out).1).mono ?_; rintro e wp ⟨rfl, hbp⟩; have HBP := Lib.hid hbp; have HLP := Lib.hid (HLS.out.keep hbp); clear hbp) | (refine wpList_store_mid rfl 38 _ _ rfl B (74 + k * 32) (ag (fun _ => .i64) 32 g) rfl rfl ?hth ?hin ?hon ?_; (case hth => rw [ag_size]; exact bx_there HLP.out.st _ _ (by omega)); (case hin => rw [ag_size]; exact i32a.out); (case hon => exact ag_one _ _ _); have ho4 := only_setCells wp B (74 + k * 32) (ag (fun _ => .i64) 32 g).toList; have hb4 := bx_setCells HLP.out.st .i64 (74 + k * 32) ((List.range 32).map g) (by simp; omega) (fun j h1 h2 => kP_i j (by simp at h2; omega)); rw [← ag_listK] at hb4; generalize World.setCells wp B (74 + k * 32) (ag (fun _ => .i64) 32 g).toList = w4 at *; have d1 := ag_cell hb4 (138 + k) (by omega); have d2 := (block_facts hb4).2.1 (138 + k); rw [kP_i _ (by omega)] at d1; have hls4 := HLP.out.only ho4 hb4; have ho5 := only_setCell w4 ⟨B, 138 + k, none⟩ (.int .i64 0); have hb5 := ag_store hb4 (138 + k) (by omega) 0; rw [kP_i _ (by omega)] at hb5; have HLS5 := Lib.hid (hls4.only ho5 hb5); have hoW : Only B wp (w4.setCell ⟨B, 138 + k, none⟩ (.int .i64 0)) := ho4.trans ho5; have HSW := Lib.hid (Kd.R_mono (R_mvO (R_mvB HS.out (HBP.out.mono (by assumption))) hoW (show B < V.heap.size by omega)) (fun _ _ => trivial) : Kd.R (Kd.slice 2 (Kd.int .i64)) 43 _ V.heap.size (fun _ => True) u10 (soundsK st i L k)); have HXW := Lib.hid (Kd.R_lower (R_apart (R_only (Kd.R_below HO.out HBP.out) hoW (show B < w1.heap.size by have := HLS1.out.size; omega)) HIN.out (Nat.le_refl _)) hw1); have HSz := Lib.hid (show V.heap.size ≤ (w4.setCell ⟨B, 138 + k, none⟩ (.int .i64 0)).heap.size by rw [hoW.size]; exact Nat.le_trans hw2 HBP.out.size); clear ho4 hls4 ho5 hb5 hoW hb4) | ((with_reducible refine gate_builtin (b := .append) (xs := #[.tmp 65, .tmp 67]) rfl ?_); at_builtin; refine Kd.R_append (Kd.slice 2 (Kd.int .i64)) (w0 := w4.setCell ⟨B, 138 + k, none⟩ (.int .i64 0)) V.heap.size rfl (.tmp 65) (.tmp 67) 96 43 (.slice none 0 0) 24 rfl Tryd.underlying96 info_sl64 rfl (by decide) (by omega) u10 (soundsK st i L k) (X.map sat16) [.slice A2 l2 c2] (fun _ => True) (fun b => True ∧ some b ≠ u10.ownBlock) rfl (Eq.trans (b := Value.slice (some ⟨w4.heap.size, 0, none⟩) 1 1) rfl (by simp)) ?aP ?aQ ?aF ?aO ?aB ?aS ?aL ?_; (case aP => exact ⟨_, rfl, HXW.out⟩); (case aQ => exact fun _ h => h); (case aF => exact (fun _ _ => trivial)); (case aO => exact HSW.out); (case aB => exact Below.refl _ _); (case aS => exact HSz.out); (case aL => simp [soundsK]; omega); intro v5 w5 hS5 hB5 hgr hat; have HS5 := Lib.hid hS5; have HLS6 := Lib.hid (HLS5.out.keepB hB5 (by omega)); have hs5 := Nat.le_trans HSz.out hB5.size; clear hS5 hB5 hgr hat))
          generalize hf5 : updI (overF (tailTo (loseTo i nb L st k) k i) (74 + k * 32) ((List.range 32).map g)) (138 + k) 0 = f5 at HLS6
          have hE5 : ∀ j, j < 10 → f5 j ≤ 9223372036854775807 := fun j hj => by
            rw [← hf5]
            unfold updI overF tailTo
            rw [if_neg (by omega), if_neg (by omega), if_neg (by omega)]
            exact loseTo_E i nb L st hst.out k j hj
          have HF5 := Lib.hid hf5
          have HE5 := Lib.hid hE5
          clear hf5 hE5 d1 d2 HLS5 HSW HXW HSz HLP HBP hpu hrg HS HO HRX HLS
          go_loopw [15] (fun cnt wr => ∃ b : Nat, b ≤ nb ∧ cnt = .int .i64 b ∧ LR w B (eTo f5 k b) wr ∧ Kd.R (Kd.slice 2 (Kd.int .i64)) 43 wr V.heap.size (fun _ => True) v5 (soundsK st i L k ++ [X.map sat16]) ∧ V.heap.size ≤ wr.heap.size) (fun cnt _ => nb - (intOf cnt).toNat)
          case atStart => exact ⟨0, by omega, rfl, HLS6.out.ext (fun j hj => by unfold eTo; rw [if_neg (by omega)]), HS5.out, hs5⟩
          case round =>
            obtain ⟨b, hb, rfl, hls, hs8, hz8⟩ := hrel
            have HLS8 := Lib.hid hls
            have HS8 := Lib.hid hs8
            have hwB := hls.size
            clear hls hs8
            by_cases hlt3 : b < nb
            · have hlt3' : (b : Int) < nb := by omega
              have hb0 : (0 : Int) ≤ b := by omega
              have hb5 : (b : Int) < 5 := by omega
              have hy := HE5.out (k * 5 + b) (by omega)
              generalize hyy : f5 (k * 5 + b) = y at hy
              have HY := Lib.hid hyy
              have hwBB : B < wr.heap.size := by omega
              clear hyy
              by_cases hge : 2 ≤ y
              · go_wp2_with (go_at_call 33; refine (hBn.out _).mono ?_; rintro e wb ⟨rfl, hdb⟩; have HLB := Lib.hid (HLS8.out.keep hdb.below); have HSB := Lib.hid (Kd.R_below HS8.out hdb.below); have hzB := Nat.le_trans hz8 hdb.below.size; have r0 := ag_cell HLB.out.st (k * 5 + b) (by omega); have r1 := (block_facts HLB.out.st).2.1 (k * 5 + b); rw [kP_i _ (by omega), show eTo f5 k b (k * 5 + b) = f5 (k * 5 + b) from by unfold eTo; rw [if_neg (by omega)], HY.out] at r0; have hwBb := HLB.out.size; have hwBc : B < wb.heap.size := by omega)
                refine wp_region_inv [] (fun W => Below wb.heap.size wb W) (fun W W' => Below W.heap.size W W') 12 (by kernel_rfl) (by kernel_rfl) (by kernel_rfl) ((Below.refl _ _).drew) (fun W W' h h' => h.trans (h'.mono h.size)) (fun _ _ h => h.size) ?_
                simp only [List.take_succ_cons, List.take_zero, List.drop_succ_cons, List.drop_zero]
                refine wpInv_det (by kernel_rfl) (by kernel_rfl) ?_
                apply Exists.intro
                refine ⟨?_, ?_, ?_⟩
                · intro U W hC hH
                  obtain ⟨hc1, hf1⟩ := bcell hC
                  simp only [HypsU, predsOf, Region.binds, List.filterMap_cons, List.filterMap_nil, if_true, List.nil_append, List.cons_append, List.getD_cons_zero, List.getD_cons_succ] at hH
                  simp only [fillPuts, Act.put, List.setIfInBounds_toArray, List.set_cons_zero, List.set_cons_succ, Nat.reduceAdd]
                  go_wp2_with fail
                  refine ⟨rfl, rfl, by (repeat' (first | (with_reducible exact Below.refl _ _) | (with_reducible assumption) | (with_reducible refine Below.alloc ?_ ?_ _) | (with_reducible refine below_grew ?_ ?_ _) | (with_reducible refine Below.setCell ?_ ?_ _) | (with_reducible refine Below.drew ?_) | (with_reducible refine below_drewN ?_ _) | omega | (simp; done) | (simp; omega))), ?_⟩
                  conv => lhs; whnf
                  try rfl
                · exact fun _ => rfl
                simp only [List.nil_append, List.cons_append, Nat.reduceAdd]
                refine wpInv_det (by kernel_rfl) (by kernel_rfl) ?_
                apply Exists.intro
                refine ⟨?_, ?_, ?_⟩
                · intro U W hC hH
                  obtain ⟨hc1, hf1⟩ := bcell hC
                  simp only [HypsU, predsOf, Region.binds, List.filterMap_cons, List.filterMap_nil, if_true, List.nil_append, List.cons_append, List.getD_cons_zero, List.getD_cons_succ] at hH
                  simp only [fillPuts, Act.put, List.setIfInBounds_toArray, List.set_cons_zero, List.set_cons_succ, Nat.reduceAdd]
                  go_wp2_with fail
                  refine ⟨rfl, rfl, by (repeat' (first | (with_reducible exact Below.refl _ _) | (with_reducible assumption) | (with_reducible refine Below.alloc ?_ ?_ _) | (with_reducible refine below_grew ?_ ?_ _) | (with_reducible refine Below.setCell ?_ ?_ _) | (with_reducible refine Below.drew ?_) | (with_reducible refine below_drewN ?_ _) | omega | (simp; done) | (simp; omega))), ?_⟩
                  conv => lhs; whnf
                  try rfl
                · exact fun _ => rfl
                simp only [List.nil_append, List.cons_append, Nat.reduceAdd]
                refine wpInv_det (by kernel_rfl) (by kernel_rfl) ?_
                apply Exists.intro
                refine ⟨?_, ?_, ?_⟩
                · intro U W hC hH
                  obtain ⟨hc1, hf1⟩ := bcell hC
                  simp only [HypsU, predsOf, Region.binds, List.filterMap_cons, List.filterMap_nil, if_true, List.nil_append, List.cons_append, List.getD_cons_zero, List.getD_cons_succ] at hH
                  simp only [fillPuts, Act.put, List.setIfInBounds_toArray, List.set_cons_zero, List.set_cons_succ, Nat.reduceAdd]
                  go_wp2_with fail
                  refine ⟨rfl, rfl, by (repeat' (first | (with_reducible exact Below.refl _ _) | (with_reducible assumption) | (with_reducible refine Below.alloc ?_ ?_ _) | (with_reducible refine below_grew ?_ ?_ _) | (with_reducible refine Below.setCell ?_ ?_ _) | (with_reducible refine Below.drew ?_) | (with_reducible refine below_drewN ?_ _) | omega | (simp; done) | (simp; omega))), ?_⟩
                  conv => lhs; whnf
                  try rfl
                · exact fun _ => rfl
                simp only [List.nil_append, List.cons_append, Nat.reduceAdd]
                refine wpInv_det (by kernel_rfl) (by kernel_rfl) ?_
                apply Exists.intro
                refine ⟨?_, ?_, ?_⟩
                · intro U W hC hH
                  obtain ⟨hc1, hf1⟩ := bcell hC
                  simp only [HypsU, predsOf, Region.binds, List.filterMap_cons, List.filterMap_nil, if_true, List.nil_append, List.cons_append, List.getD_cons_zero, List.getD_cons_succ] at hH
                  simp only [fillPuts, Act.put, List.setIfInBounds_toArray, List.set_cons_zero, List.set_cons_succ, Nat.reduceAdd]
                  go_wp2_with fail
                  refine ⟨rfl, rfl, by (repeat' (first | (with_reducible exact Below.refl _ _) | (with_reducible assumption) | (with_reducible refine Below.alloc ?_ ?_ _) | (with_reducible refine below_grew ?_ ?_ _) | (with_reducible refine Below.setCell ?_ ?_ _) | (with_reducible refine Below.drew ?_) | (with_reducible refine below_drewN ?_ _) | omega | (simp; done) | (simp; omega))), ?_⟩
                  conv => lhs; whnf
                  try rfl
                · exact fun _ => rfl
                simp only [List.nil_append, List.cons_append, Nat.reduceAdd]
                refine wpInv_det (by kernel_rfl) (by kernel_rfl) ?_
                apply Exists.intro
                refine ⟨?_, ?_, ?_⟩
                · intro U W hC hH
                  obtain ⟨hc1, hf1⟩ := bcell hC
                  simp only [HypsU, predsOf, Region.binds, List.filterMap_cons, List.filterMap_nil, if_true, List.nil_append, List.cons_append, List.getD_cons_zero, List.getD_cons_succ] at hH
                  simp only [fillPuts, Act.put, List.setIfInBounds_toArray, List.set_cons_zero, List.set_cons_succ, Nat.reduceAdd]
                  go_wp2_with fail
                  refine ⟨rfl, rfl, by (repeat' (first | (with_reducible exact Below.refl _ _) | (with_reducible assumption) | (with_reducible refine Below.alloc ?_ ?_ _) | (with_reducible refine below_grew ?_ ?_ _) | (with_reducible refine Below.setCell ?_ ?_ _) | (with_reducible refine Below.drew ?_) | (with_reducible refine below_drewN ?_ _) | omega | (simp; done) | (simp; omega))), ?_⟩
                  conv => lhs; whnf
                  try rfl
                · exact fun _ => rfl
                simp only [List.nil_append, List.cons_append, Nat.reduceAdd]
                refine wpInv_det (by kernel_rfl) (by kernel_rfl) ?_
                apply Exists.intro
                refine ⟨?_, ?_, ?_⟩
                · intro U W hC hH
                  obtain ⟨hc1, hf1⟩ := bcell hC
                  simp only [HypsU, predsOf, Region.binds, List.filterMap_cons, List.filterMap_nil, if_true, List.nil_append, List.cons_append, List.getD_cons_zero, List.getD_cons_succ] at hH
                  simp only [fillPuts, Act.put, List.setIfInBounds_toArray, List.set_cons_zero, List.set_cons_succ, Nat.reduceAdd]
                  go_wp2_with fail
                  refine ⟨rfl, rfl, by (repeat' (first | (with_reducible exact Below.refl _ _) | (with_reducible assumption) | (with_reducible refine Below.alloc ?_ ?_ _) | (with_reducible refine below_grew ?_ ?_ _) | (with_reducible refine Below.setCell ?_ ?_ _) | (with_reducible refine Below.drew ?_) | (with_reducible refine below_drewN ?_ _) | omega | (simp; done) | (simp; omega))), ?_⟩
                  conv => lhs; whnf
                  try rfl
                · exact fun _ => rfl
                simp only [List.nil_append, List.cons_append, Nat.reduceAdd]
                refine wpInv_det (by kernel_rfl) (by kernel_rfl) ?_
                apply Exists.intro
                refine ⟨?_, ?_, ?_⟩
                · intro U W hC hH
                  obtain ⟨hc1, hf1⟩ := bcell hC
                  simp only [HypsU, predsOf, Region.binds, List.filterMap_cons, List.filterMap_nil, if_true, List.nil_append, List.cons_append, List.getD_cons_zero, List.getD_cons_succ] at hH
                  simp only [fillPuts, Act.put, List.setIfInBounds_toArray, List.set_cons_zero, List.set_cons_succ, Nat.reduceAdd]
                  go_wp2_with fail
                  refine ⟨rfl, rfl, by (repeat' (first | (with_reducible exact Below.refl _ _) | (with_reducible assumption) | (with_reducible refine Below.alloc ?_ ?_ _) | (with_reducible refine below_grew ?_ ?_ _) | (with_reducible refine Below.setCell ?_ ?_ _) | (with_reducible refine Below.drew ?_) | (with_reducible refine below_drewN ?_ _) | omega | (simp; done) | (simp; omega))), ?_⟩
                  conv => lhs; whnf
                  try rfl
                · exact fun _ => rfl
                simp only [List.nil_append, List.cons_append, Nat.reduceAdd]
                refine wpInv_det (by kernel_rfl) (by kernel_rfl) ?_
                apply Exists.intro
                refine ⟨?_, ?_, ?_⟩
                · intro U W hC hH
                  obtain ⟨hc1, hf1⟩ := bcell hC
                  simp only [HypsU, predsOf, Region.binds, List.filterMap_cons, List.filterMap_nil, if_true, List.nil_append, List.cons_append, List.getD_cons_zero, List.getD_cons_succ] at hH
                  simp only [fillPuts, Act.put, List.setIfInBounds_toArray, List.set_cons_zero, List.set_cons_succ, Nat.reduceAdd]
                  go_wp2_with fail
                  refine ⟨rfl, rfl, by (repeat' (first | (with_reducible exact Below.refl _ _) | (with_reducible assumption) | (with_reducible refine Below.alloc ?_ ?_ _) | (with_reducible refine below_grew ?_ ?_ _) | (with_reducible refine Below.setCell ?_ ?_ _) | (with_reducible refine Below.drew ?_) | (with_reducible refine below_drewN ?_ _) | omega | (simp; done) | (simp; omega))), ?_⟩
                  conv => lhs; whnf
                  try rfl
                · exact fun _ => rfl
                simp only [List.nil_append, List.cons_append, Nat.reduceAdd]
                refine wpInv_det (by kernel_rfl) (by kernel_rfl) ?_
                apply Exists.intro
                refine ⟨?_, ?_, ?_⟩
                · intro U W hC hH
                  obtain ⟨hc1, hf1⟩ := bcell hC
                  simp only [HypsU, predsOf, Region.binds, List.filterMap_cons, List.filterMap_nil, if_true, List.nil_append, List.cons_append, List.getD_cons_zero, List.getD_cons_succ] at hH
                  simp only [fillPuts, Act.put, List.setIfInBounds_toArray, List.set_cons_zero, List.set_cons_succ, Nat.reduceAdd]
                  go_wp2_with fail
                  refine ⟨rfl, rfl, by (repeat' (first | (with_reducible exact Below.refl _ _) | (with_reducible assumption) | (with_reducible refine Below.alloc ?_ ?_ _) | (with_reducible refine below_grew ?_ ?_ _) | (with_reducible refine Below.setCell ?_ ?_ _) | (with_reducible refine Below.drew ?_) | (with_reducible refine below_drewN ?_ _) | omega | (simp; done) | (simp; omega))), ?_⟩
                  conv => lhs; whnf
                  try rfl
                · exact fun _ => rfl
                simp only [List.nil_append, List.cons_append, Nat.reduceAdd]
                refine wpInv_det (by kernel_rfl) (by kernel_rfl) ?_
                apply Exists.intro
                refine ⟨?_, ?_, ?_⟩
                · intro U W hC hH
                  obtain ⟨hc1, hf1⟩ := bcell hC
                  simp only [HypsU, predsOf, Region.binds, List.filterMap_cons, List.filterMap_nil, if_true, List.nil_append, List.cons_append, List.getD_cons_zero, List.getD_cons_succ] at hH
                  simp only [fillPuts, Act.put, List.setIfInBounds_toArray, List.set_cons_zero, List.set_cons_succ, Nat.reduceAdd]
                  go_wp2_with fail
                  refine ⟨rfl, rfl, by (repeat' (first | (with_reducible exact Below.refl _ _) | (with_reducible assumption) | (with_reducible refine Below.alloc ?_ ?_ _) | (with_reducible refine below_grew ?_ ?_ _) | (with_reducible refine Below.setCell ?_ ?_ _) | (with_reducible refine Below.drew ?_) | (with_reducible refine below_drewN ?_ _) | omega | (simp; done) | (simp; omega))), ?_⟩
                  conv => lhs; whnf
                  try rfl
                · exact fun _ => rfl
                simp only [List.nil_append, List.cons_append, Nat.reduceAdd]
                refine wpInv_det (by kernel_rfl) (by kernel_rfl) ?_
                apply Exists.intro
                refine ⟨?_, ?_, ?_⟩
                · intro U W hC hH
                  obtain ⟨hc1, hf1⟩ := bcell hC
                  simp only [HypsU, predsOf, Region.binds, List.filterMap_cons, List.filterMap_nil, if_true, List.nil_append, List.cons_append, List.getD_cons_zero, List.getD_cons_succ] at hH
                  simp only [fillPuts, Act.put, List.setIfInBounds_toArray, List.set_cons_zero, List.set_cons_succ, Nat.reduceAdd]
                  go_wp2_with fail
                  refine ⟨rfl, rfl, by (repeat' (first | (with_reducible exact Below.refl _ _) | (with_reducible assumption) | (with_reducible refine Below.alloc ?_ ?_ _) | (with_reducible refine below_grew ?_ ?_ _) | (with_reducible refine Below.setCell ?_ ?_ _) | (with_reducible refine Below.drew ?_) | (with_reducible refine below_drewN ?_ _) | omega | (simp; done) | (simp; omega))), ?_⟩
                  conv => lhs; whnf
                  try rfl
                · exact fun _ => rfl
                simp only [List.nil_append, List.cons_append, Nat.reduceAdd]
                refine wpInv_det (by kernel_rfl) (by kernel_rfl) ?_
                apply Exists.intro
                refine ⟨?_, ?_, ?_⟩
                · intro U W hC hH
                  obtain ⟨hc1, hf1⟩ := bcell hC
                  simp only [HypsU, predsOf, Region.binds, List.filterMap_cons, List.filterMap_nil, if_true, List.nil_append, List.cons_append, List.getD_cons_zero, List.getD_cons_succ] at hH
                  simp only [fillPuts, Act.put, List.setIfInBounds_toArray, List.set_cons_zero, List.set_cons_succ, Nat.reduceAdd]
                  go_wp2_with fail
                  refine ⟨rfl, rfl, by (repeat' (first | (with_reducible exact Below.refl _ _) | (with_reducible assumption) | (with_reducible refine Below.alloc ?_ ?_ _) | (with_reducible refine below_grew ?_ ?_ _) | (with_reducible refine Below.setCell ?_ ?_ _) | (with_reducible refine Below.drew ?_) | (with_reducible refine below_drewN ?_ _) | omega | (simp; done) | (simp; omega))), ?_⟩
                  conv => lhs; whnf
                  try rfl
                · exact fun _ => rfl
                simp only [List.nil_append, List.cons_append, Nat.reduceAdd]
                simp only [List.nil_append, List.cons_append, Nat.reduceAdd, fillPuts, Act.put, List.setIfInBounds_toArray, List.set_cons_zero, List.set_cons_succ]
                rintro U W2 hC ⟨h0, h1, h2, h3, h4, h5, h6, h7, h8, h9, h10, h11, -⟩ -
                simp only [h0, h1, h2, h3, h4, h5, h6, h7, h8, h9, h10, h11]
                clear h0 h1 h2 h3 h4 h5 h6 h7 h8 h9 h10 h11
                have hls9 := HLB.out.keep hC
                have HS9 := Lib.hid (Kd.R_below HSB.out hC)
                have hz9 := Nat.le_trans hzB hC.size
                have q0 := ag_cell hls9.st (k * 5 + b) (by omega)
                have q1 := (block_facts hls9.st).2.1 (k * 5 + b)
                have HLS9 := Lib.hid hls9
                clear hC r0 r1 hls9 HLS8 HS8 HLB HSB
                go_wp2_with fail
                go_roundw
                case rel =>
                  have ho := only_setCell W2 ⟨B, k * 5 + b, none⟩ (.int .i64 (y - 2))
                  have hbx := ag_store HLS9.out.st (k * 5 + b) (by omega) (y - 2)
                  rw [kP_i _ (by omega)] at hbx
                  refine ⟨b + 1, by omega, rfl, (HLS9.out.only ho hbx).ext (fun j hj => ?_), R_only HS9.out ho (show B < V.heap.size by omega), by rw [ho.size]; exact hz9⟩
                  unfold updI eTo
                  by_cases e : j = k * 5 + b
                  · rw [if_pos e, if_pos (by omega), e, HY.out]
                    omega
                  · rw [if_neg e]
                    by_cases e2 : k * 5 ≤ j ∧ j < k * 5 + b
                    · rw [if_pos e2, if_pos (by omega)]
                    · rw [if_neg e2, if_neg (by omega)]
                case measure => simp [intOf]; omega
              · have hge' : ¬ (2 ≤ y) := hge
                go_wp2_with (go_at_call 33; refine (hBn.out _).mono ?_; rintro e wb ⟨rfl, hdb⟩; have HLB := Lib.hid (HLS8.out.keep hdb.below); have HSB := Lib.hid (Kd.R_below HS8.out hdb.below); have hzB := Nat.le_trans hz8 hdb.below.size; have r0 := ag_cell HLB.out.st (k * 5 + b) (by omega); have r1 := (block_facts HLB.out.st).2.1 (k * 5 + b); rw [kP_i _ (by omega), show eTo f5 k b (k * 5 + b) = f5 (k * 5 + b) from by unfold eTo; rw [if_neg (by omega)], HY.out] at r0; have hwBb := HLB.out.size; have hwBc : B < wb.heap.size := by omega)
                go_roundw
                case rel =>
                  have ho := only_setCell wb ⟨B, k * 5 + b, none⟩ (.int .i64 (0))
                  have hbx := ag_store HLB.out.st (k * 5 + b) (by omega) (0)
                  rw [kP_i _ (by omega)] at hbx
                  refine ⟨b + 1, by omega, rfl, (HLB.out.only ho hbx).ext (fun j hj => ?_), R_only HSB.out ho (show B < V.heap.size by omega), by rw [ho.size]; exact hzB⟩
                  unfold updI eTo
                  by_cases e : j = k * 5 + b
                  · rw [if_pos e, if_pos (by omega), e, HY.out]
                    omega
                  · rw [if_neg e]
                    by_cases e2 : k * 5 ≤ j ∧ j < k * 5 + b
                    · rw [if_pos e2, if_pos (by omega)]
                    · rw [if_neg e2, if_neg (by omega)]
                case measure => simp [intOf]; omega
            · have hlt3' : ¬ (b : Int) < nb := by omega
              obtain rfl : b = nb := by omega
              go_wp2_with (go_at_call 33; refine (hBn.out _).mono ?_; rintro e wb ⟨rfl, hdb⟩; have HLB := Lib.hid (HLS8.out.keep hdb.below); have HSB := Lib.hid (Kd.R_below HS8.out hdb.below); have hzB := Nat.le_trans hz8 hdb.below.size)
              go_roundw
              case rel =>
                refine ⟨k + 1, by omega, rfl, HLB.out.ext (fun j hj => ?_), ?_, hzB⟩
                · rw [← HF5.out, ← HG.out]
                  exact eTo_loseR i b L st k X (by omega) (by omega) (by omega) (by omega) HX.out j
                · have := HSB.out
                  unfold soundsK at this ⊢
                  rw [List.range_succ, List.map_append]
                  rw [← HX.out] at this
                  exact this
              case measure => simp [intOf]; omega
    · have hlt' : ¬ (k : Int) < c := by omega
      obtain rfl : k = c := by omega
      have d1 := ag_cell HLS.out.st 140 (by omega)
      have d2 := ag_cell HLS.out.st 141 (by omega)
      rw [show kP 140 = .u32 from rfl, loseTo_high n nb L st (by omega) (by omega) 140 (by omega) k (by omega)] at d1
      go_wp2_with (first | (go_at_call 52; refine (hlg.out _).mono ?_; rintro e wl ⟨rfl, hdl⟩; have hls10 := HLS.out.keep hdl.below; have q0 := ag_cell hls10.st 140 (by omega); have q2 := (block_facts hls10.st).2.1 140; have HLS10 := Lib.hid hls10; have HS10 := Lib.hid (Kd.R_below HS.out hdl.below); have hz10 := Nat.le_trans hsz hdl.below.size; clear hls10 hdl) | (go_at_call 47; refine (hhl.out _ _).mono ?_; rintro e wh ⟨rfl, hdh⟩; have hoA := only_setCell wl ⟨B, 140, none⟩ (.int .u32 ((st 140 * 1664525 + 1013904223) % 4294967296)); have hls12 := (HLS10.out.only hoA (ag_store HLS10.out.st 140 (by omega) ((st 140 * 1664525 + 1013904223) % 4294967296))).keep hdh.below; have q4 := ag_cell hls12.st 141 (by omega); have q5 := (block_facts hls12.st).2.1 141; have HLS12 := Lib.hid hls12; have HS12 := Lib.hid (Kd.R_below (R_only HS10.out hoA (show B < V.heap.size by omega)) hdh.below); have hz12 : V.heap.size ≤ wh.heap.size := Nat.le_trans (by rw [hoA.size]; exact hz10) hdh.below.size; clear hls12 hdh hoA q0 q2))
      have ho := only_setCell wh ⟨B, 141, none⟩ (.int .i64 (min (max L 0) 1000))
      have hbx := ag_store HLS12.out.st 141 (by omega) (min (max L 0) 1000)
      have hls11 := (HLS12.out.only ho hbx).ext (f' := loseF s k st) (fun j hj => by
        have hLp : 1 ≤ L := by rw [← HLo.out]; unfold lossOf; omega
        unfold loseF updI
        rw [HLo.out, Hn.out, Hnb.out]
        by_cases e1 : j = 141
        · rw [if_pos e1, if_neg (by omega), if_pos e1]; omega
        · rw [if_neg e1]
          by_cases e2 : j = 140
          · rw [if_pos e2, if_pos e2]
          · rw [if_neg e2, if_neg e2, if_neg e1]; rfl)
      refine cut_world (fun W => LR w B (loseF s k st) W ∧ Kd.R (Kd.slice 2 (Kd.int .i64)) 43 W V.heap.size (fun _ => True) u10 (soundsK st n L k) ∧ V.heap.size ≤ W.heap.size) ⟨hls11, R_only HS12.out ho (show B < V.heap.size by omega), by rw [ho.size]; exact hz12⟩ ?_
      clear ho hbx hls11 q4 q5 HLS10 HS10 hz10 d1 d2 HLS HS HLS12 HS12 hz12
      rintro Z ⟨hls, hS, hz⟩
      obtain ⟨A3, c3, rfl, hc3, hC3⟩ := Kd.R_reads hS
      have HLS := Lib.hid hls
      have HC3 := Lib.hid hC3
      have hmx := Lib.hid (fun W hC => spinetref26_Mix.calls 200 A3 c3 (soundsK st n L k) n (mixF (soundsK st n L k) n) W hC hc3 (rmix_f _ n (soundsK_len st n L k) (by simp [soundsK]; omega) (by omega)))
      clear hls hS hC3
      refine wp_region_inv [] (fun W => Below Z.heap.size Z W) (fun W W' => Below W.heap.size W W') 4 (by kernel_rfl) (by kernel_rfl) (by kernel_rfl) ((Below.refl _ _).drew) (fun W W' h h' => h.trans (h'.mono h.size)) (fun _ _ h => h.size) ?_
      simp only [List.take_succ_cons, List.take_zero, List.drop_succ_cons, List.drop_zero]
      refine wpInv_det (by kernel_rfl) (by kernel_rfl) ?_
      apply Exists.intro
      refine ⟨?_, ?_, ?_⟩
      · intro U W hC hH
        obtain ⟨hc1, hf1⟩ := bcell hC
        simp only [HypsU, predsOf, Region.binds, List.filterMap_cons, List.filterMap_nil, if_true, List.nil_append, List.cons_append, List.getD_cons_zero, List.getD_cons_succ] at hH
        simp only [fillPuts, Act.put, List.setIfInBounds_toArray, List.set_cons_zero, List.set_cons_succ, Nat.reduceAdd]
        go_wp2_with (refine wpList_load_row rfl Rt _ rfl B rfl _ (ag kP 142 (loseF s k st)) (0, 0) _ (HLS.out.keep hC).st Tryd.underlying42 rfl ?hin ?_; (case hin => exact infoR_ag _))
        refine ⟨rfl, rfl, by (repeat' (first | (with_reducible exact Below.refl _ _) | (with_reducible assumption) | (with_reducible refine Below.alloc ?_ ?_ _) | (with_reducible refine below_grew ?_ ?_ _) | (with_reducible refine Below.setCell ?_ ?_ _) | (with_reducible refine Below.drew ?_) | (with_reducible refine below_drewN ?_ _) | omega | (simp; done) | (simp; omega))), ?_⟩
        conv => lhs; whnf
        try rfl
      · exact fun _ => rfl
      simp only [List.nil_append, List.cons_append, Nat.reduceAdd]
      refine wpInv_det (by kernel_rfl) (by kernel_rfl) ?_
      apply Exists.intro
      refine ⟨?_, ?_, ?_⟩
      · intro U W hC hH
        obtain ⟨hc1, hf1⟩ := bcell hC
        simp only [HypsU, predsOf, Region.binds, List.filterMap_cons, List.filterMap_nil, if_true, List.nil_append, List.cons_append, List.getD_cons_zero, List.getD_cons_succ] at hH
        simp only [fillPuts, Act.put, List.setIfInBounds_toArray, List.set_cons_zero, List.set_cons_succ, Nat.reduceAdd]
        go_wp2_with fail
        refine ⟨rfl, rfl, by (repeat' (first | (with_reducible exact Below.refl _ _) | (with_reducible assumption) | (with_reducible refine Below.alloc ?_ ?_ _) | (with_reducible refine below_grew ?_ ?_ _) | (with_reducible refine Below.setCell ?_ ?_ _) | (with_reducible refine Below.drew ?_) | (with_reducible refine below_drewN ?_ _) | omega | (simp; done) | (simp; omega))), ?_⟩
        conv => lhs; whnf
        try rfl
      · exact fun _ => rfl
      simp only [List.nil_append, List.cons_append, Nat.reduceAdd]
      refine wpInv_det (by kernel_rfl) (by kernel_rfl) ?_
      apply Exists.intro
      refine ⟨?_, ?_, ?_⟩
      · intro U W hC hH
        obtain ⟨hc1, hf1⟩ := bcell hC
        simp only [HypsU, predsOf, Region.binds, List.filterMap_cons, List.filterMap_nil, if_true, List.nil_append, List.cons_append, List.getD_cons_zero, List.getD_cons_succ] at hH
        simp only [fillPuts, Act.put, List.setIfInBounds_toArray, List.set_cons_zero, List.set_cons_succ, Nat.reduceAdd]
        go_wp2_with fail
        refine ⟨rfl, rfl, by (repeat' (first | (with_reducible exact Below.refl _ _) | (with_reducible assumption) | (with_reducible refine Below.alloc ?_ ?_ _) | (with_reducible refine below_grew ?_ ?_ _) | (with_reducible refine Below.setCell ?_ ?_ _) | (with_reducible refine Below.drew ?_) | (with_reducible refine below_drewN ?_ _) | omega | (simp; done) | (simp; omega))), ?_⟩
        conv => lhs; whnf
        try rfl
      · exact fun _ => rfl
      simp only [List.nil_append, List.cons_append, Nat.reduceAdd]
      refine ⟨fun U W => ∃ v, U 3 = v ∧ Kd.R (Kd.int .i64) 2 W Z.heap.size (fun _ => True) v (mixF (soundsK st n L k) n), fun _ _ => rfl, ?_, ?_, ?_⟩
      · rintro U W W' hC hT ⟨v, h0, hv⟩
        exact ⟨v, h0, Kd.R_below hv hT⟩
      · intro U W hC hH
        simp only [HypsU, predsOf, Region.binds, List.filterMap_cons, List.filterMap_nil, if_true, List.nil_append, List.cons_append, List.getD_cons_zero, List.getD_cons_succ] at hH
        simp only [fillPuts, Act.put, List.setIfInBounds_toArray, List.set_cons_zero, List.set_cons_succ, Nat.reduceAdd]
        go_wp2_with fail
        refine (hmx.out _ (Kd.C_below HC3.out hC)).mono ?_
        rintro e W' ⟨v, rfl, hv, hb⟩
        go_wp2_with fail
        refine ⟨rfl, rfl, hb, ⟨v, updU_eq _ _ _, Kd.R_lower hv hC.size⟩, fun h => by cases h⟩
      simp only [List.nil_append, List.cons_append, Nat.reduceAdd, fillPuts, Act.put, List.setIfInBounds_toArray, List.set_cons_zero, List.set_cons_succ]
      rintro U W hC ⟨h0, h1, h2, ⟨v, h3, hv⟩, -⟩ -
      simp only [h0, h1, h2, h3]
      clear h0 h1 h2 h3
      have hls := HLS.out.keep hC
      have hzW := Nat.le_trans hz hC.size
      have HLW := Lib.hid hls
      have HV := Lib.hid hv
      clear hls hC hv hmx
      go_wp2_with (refine wpList_store_mid rfl Rt _ _ rfl (B + 1) 0 (ag kP 142 (loseF s k st)) rfl rfl ?hth ?hin ?hon ?_; (case hth => exact there_row HLW.out.rz _ (zero42_le _)); (case hin => exact infoR_ag _); (case hon => exact ag_one kP 142 _))
      have ho := only_setCells W (B + 1) 0 (ag kP 142 (loseF s k st)).toList
      have q1 := cells_all HLW.out.rz (N := 142) zero42_size (cs := ag kP 142 (loseF s k st)) (ag_size _ _ _)
      have hfin : Below w.heap.size w (W.setCells (B + 1) 0 (ag kP 142 (loseF s k st)).toList) := ho.below (HLW.out.below.mono (Nat.le_of_eq HBd.out)) (by rw [HBd.out]; omega)
      refine bodyPost_ret (v := .tuple #[.agg (ag kP 142 (loseF s k st)), v]) ?_ rfl ⟨v, rfl, ?_, hfin⟩
      · exact results_row_tmp rfl _ _ (B + 1) _ _ _ _ v rfl rfl q1 Tryd.underlying42 rfl (infoR_ag _)
      · rw [HBd.out]
        have := R_lowT (R_only HV.out ho (by omega)) (show B ≤ Z.heap.size by omega)
        rw [← Hn.out, ← HLo.out] at this
        exact this
end Go.Proofs.YtmcjbejccelagaaDoor
end

section
namespace Go.Proofs.YtmcjbejccelagaaDoor
open Go.RowKit Go.BigFrame
set_option linter.unusedSimpArgs false
set_option linter.unusedVariables false
set_option maxRecDepth 100000 in
theorem mode26 (a b : Int) (ha : 0 ≤ a ∧ a ≤ 255) (hb : 0 ≤ b ∧ b ≤ 255) (w : World) :
    Calls Tryd.prog 13 #[.agg #[.int .u8 a, .int .u8 b]] w fun e w' => e = .returned (.agg #[.int .i64 (a % 3), .int .i64 (b % 2 + 1)]) ∧ Below w.heap.size w w' := by
  have t1 : Int.tmod a 3 = a % 3 := Int.tmod_eq_emod_of_nonneg ha.1
  have t2 : Int.tmod b 2 = b % 2 := Int.tmod_eq_emod_of_nonneg hb.1
  obtain ⟨h1, h2⟩ := ha
  obtain ⟨h3, h4⟩ := hb
  go_enter Tryd.func13, Tryd.ntmps13
  go_wp2
  refine bodyPost_ret (v := _) (by simp [results, Tryd.results13, go_sem]; rfl) rfl ⟨?_, ?_⟩
  · rfl
  · (repeat' (first | (with_reducible exact Below.refl _ _) | (with_reducible assumption) | (with_reducible refine Below.alloc ?_ ?_ _) | (with_reducible refine below_grew ?_ ?_ _) | (with_reducible refine Below.setCell ?_ ?_ _) | (with_reducible refine Below.drew ?_) | (with_reducible refine below_drewN ?_ _) | omega | (simp; done) | (simp; omega)))
end Go.Proofs.YtmcjbejccelagaaDoor
end

section
namespace Go
open Go.RowKit
set_option linter.unusedSimpArgs false
/-- A cell of a kind, within its bounds. -/
def Leaf.fitsW : Leaf → Value → Bool
  | .int k, .int k' n => decide (k = k') && (Lit.int k n).wf
  | .bool, .bool _ => true
  | _, _ => false
def fitAllW : List Leaf → List Value → Bool
  | [], [] => true
  | l :: ls, x :: xs => l.fitsW x && fitAllW ls xs
  | _, _ => false
theorem fitAllW_append : ∀ {ls ms : List Leaf} {xs ys : List Value}, fitAllW ls xs = true → fitAllW ms ys = true → fitAllW (ls ++ ms) (xs ++ ys) = true
  | [], ms, [], ys, _, h2 => by simpa using h2
  | l :: ls, ms, x :: xs, ys, h1, h2 => by
    simp only [fitAllW, Bool.and_eq_true] at h1
    simp only [List.cons_append, fitAllW, Bool.and_eq_true]
    exact ⟨h1.1, fitAllW_append h1.2 h2⟩
theorem fitAllW_length : ∀ {ls : List Leaf} {xs : List Value}, fitAllW ls xs = true → xs.length = ls.length
  | [], [], _ => rfl
  | _ :: ls, _ :: xs, h => by
    simp only [fitAllW, Bool.and_eq_true] at h
    simp [fitAllW_length h.2]
theorem fitAllW_at : ∀ {ls : List Leaf} {xs : List Value} (i : Nat) (k : IntKind), fitAllW ls xs = true → ls[i]? = some (.int k) → ∃ n, xs[i]? = some (.int k n) ∧ (Lit.int k n).wf = true
  | l :: ls, x :: xs, 0, k, h, hi => by
    obtain rfl : l = .int k := by simpa using hi
    simp only [fitAllW, Bool.and_eq_true] at h
    have h1 := h.1
    cases x with
    | int k' n =>
      simp only [Leaf.fitsW, Bool.and_eq_true, decide_eq_true_eq] at h1
      obtain ⟨rfl, hw⟩ := h1
      exact ⟨n, rfl, hw⟩
    | _ => exact absurd h1 (by simp [Leaf.fitsW])
  | l :: ls, x :: xs, i + 1, k, h, hi => by
    simp only [fitAllW, Bool.and_eq_true] at h
    simpa using fitAllW_at i k h.2 (by simpa using hi)
theorem fitAllW_int {k : IntKind} {ls : List Leaf} {xs : List Value} (h : fitAllW (.int k :: ls) xs = true) : ∃ n ys, xs = .int k n :: ys ∧ (Lit.int k n).wf = true ∧ fitAllW ls ys = true := by
  cases xs with
  | nil => simp [fitAllW] at h
  | cons x ys =>
    simp only [fitAllW, Bool.and_eq_true] at h
    obtain ⟨n, h1, h2⟩ := fitAllW_at (ls := [.int k]) (xs := [x]) 0 k (by simp [fitAllW, h.1]) rfl
    obtain rfl : x = .int k n := by simpa using h1
    exact ⟨n, ys, rfl, h2, h.2⟩
theorem fitAllW_nil {xs : List Value} (h : fitAllW [] xs = true) : xs = [] := by
  cases xs with
  | nil => rfl
  | cons x ys => simp [fitAllW] at h
theorem layout_cells {P : Program} {d : Nat} {t : TypeId} {ls : List Leaf} (h : layout P d t = some ls) : P.cellsOf t = ls.length := by
  obtain ⟨i, h1, h2⟩ := layout_info h
  simp [Program.cellsOf, h1, h2]
section
variable {H : Type} {enc : TypeId × Value → H} {P : Program} {w : World} {base : Nat} {spare : Nat → Bool} {held : Bool}
theorem fields_flat {d n : Nat} (IH : ∀ (t : TypeId) (ls : List Leaf) (cs : List Value) (x : DataW H × List MemPlace), layout P d t = some ls → DataW.trod enc P w base spare held n t cs = some x → fitAllW ls cs = true) (cs : List Value) :
    ∀ (fs : List Field) (ls : List (List Leaf)) (xs : List (DataW H × List MemPlace)) (o : Nat), fs.mapM (fun f => layout P d f.type) = some ls → offsOk fs ls o = true → xs.length = fs.length →
      (∀ (i : Nat) (f : Field), fs[i]? = some f → DataW.trod enc P w base spare held n f.type ((cs.drop f.offset).take (P.cellsOf f.type)) = xs[i]?) → fitAllW ls.flatten ((cs.drop o).take ls.flatten.length) = true
  | [], ls, xs, o, h, _, _, _ => by
    simp at h
    subst h
    simp [fitAllW]
  | f :: fs, ls, xs, o, h, ho, hl, hx => by
    rw [List.mapM_cons] at h
    obtain ⟨l, h1, h2⟩ := Option.bind_eq_some_iff.1 h
    obtain ⟨ls', h3, h4⟩ := Option.bind_eq_some_iff.1 h2
    obtain rfl : l :: ls' = ls := by simpa using h4
    simp only [offsOk, Bool.and_eq_true, beq_iff_eq] at ho
    obtain ⟨⟨_, rfl⟩, ho⟩ := ho
    match xs, hl with
    | x :: xs, hl =>
      have hx0 := hx 0 f rfl
      simp only [List.getElem?_cons_zero] at hx0
      rw [layout_cells h1] at hx0
      have a1 := IH _ _ _ _ h1 hx0
      have a2 := fields_flat IH cs fs ls' xs (f.offset + l.length) h3 ho (by simpa using hl) (fun i g hg => by simpa using hx (i + 1) g (by simpa using hg))
      have e : (cs.drop f.offset).take (l :: ls').flatten.length = (cs.drop f.offset).take l.length ++ (cs.drop (f.offset + l.length)).take ls'.flatten.length := by
        rw [List.flatten_cons, List.length_append, List.take_add, List.drop_drop]
      rw [e, List.flatten_cons]
      exact fitAllW_append a1 a2
theorem items_flat {l : List Leaf} (cs : List Value) : ∀ (n o : Nat), (∀ i, i < n → fitAllW l ((cs.drop (o + i * l.length)).take l.length) = true) → fitAllW (List.replicate n l).flatten ((cs.drop o).take (List.replicate n l).flatten.length) = true
  | 0, _, _ => by simp [fitAllW]
  | n + 1, o, h => by
    have a1 := h 0 (by omega)
    have a2 := items_flat cs n (o + l.length) (fun i hi => by
      have := h (i + 1) (by omega)
      rwa [show o + (i + 1) * l.length = o + l.length + i * l.length by rw [Nat.add_mul]; omega] at this)
    simp only [Nat.zero_mul, Nat.add_zero] at a1
    have e : (cs.drop o).take (List.replicate (n + 1) l).flatten.length = (cs.drop o).take l.length ++ (cs.drop (o + l.length)).take (List.replicate n l).flatten.length := by
      rw [List.replicate_succ, List.flatten_cons, List.length_append, List.take_add, List.drop_drop]
    rw [e, List.replicate_succ, List.flatten_cons]
    exact fitAllW_append a1 a2
theorem flat_of_trod : ∀ (d n : Nat) (t : TypeId) (ls : List Leaf) (cs : List Value) (x : DataW H × List MemPlace), layout P d t = some ls → DataW.trod enc P w base spare held n t cs = some x → fitAllW ls cs = true
  | 0, _, _, _, _, _, h, _ => by simp [layout] at h
  | d + 1, n, t, ls, cs, x, h, ht => by
    have hcells := layout_cells h
    unfold layout at h
    split at h
    · rename_i hu
      split at h
      · obtain rfl : [Leaf.bool] = ls := by simpa using h
        cases n with
        | zero => simp [DataW.trod] at ht
        | succ n =>
          unfold DataW.trod at ht
          rw [hu] at ht
          split at ht <;> simp_all [fitAllW, Leaf.fitsW]
      · cases h
    · rename_i k hu
      split at h
      · obtain rfl : [Leaf.int k] = ls := by simpa using h
        obtain ⟨m, rfl, _, hw⟩ := DataW.trod_int hu ht
        simp [fitAllW, Leaf.fitsW, hw]
      · cases h
    · rename_i m e hu
      obtain ⟨l, h1, h2⟩ := Option.bind_eq_some_iff.1 h
      split at h2
      · obtain rfl : (List.replicate m l).flatten = ls := by simpa using h2
        obtain ⟨xs, n', rfl, rfl, hl, hlen, hx⟩ := DataW.trod_array hu ht
        rw [hcells] at hl
        have := items_flat (l := l) cs m 0 (fun i hi => by
          have h3 := hx i hi
          rw [layout_cells h1, List.getElem?_eq_getElem (by omega)] at h3
          rw [Nat.zero_add]
          exact flat_of_trod d n' e l _ _ h1 h3)
        rw [List.drop_zero, ← hl, List.take_length] at this
        exact this
      · cases h2
    · rename_i fs hu
      obtain ⟨ls', h1, h2⟩ := Option.bind_eq_some_iff.1 h
      split at h2
      · rename_i hc
        obtain rfl : ls'.flatten = ls := by simpa using h2
        simp only [Bool.and_eq_true] at hc
        obtain ⟨xs, n', rfl, rfl, hl, hlen, hx⟩ := DataW.trod_struct hu ht
        rw [hcells] at hl
        have := fields_flat (fun t ls cs x => flat_of_trod d n' t ls cs x) cs fs.toList ls' xs 0 h1 hc.1.2 (by simpa using hlen) (fun i f hf => by
          rw [hx i f (by simpa using hf)])
        rw [List.drop_zero, ← hl, List.take_length] at this
        exact this
      · cases h2
    · cases h
/-- A flat struct or array that came in: its cells. -/
theorem open_flat {r : Reach} {b0 : Nat} {t : TypeId} {v : Value} {dd : DataW H} {p : List MemPlace} (d : Nat) (ls : List Leaf) (hl : layout P d t = some ls) (ha : isAggB P t = true)
    (hv : Value.okWide P w r b0 t v) (h : DataW.Trod enc P w base spare held t v dd p) : ∃ cs : List Value, v = .agg cs.toArray ∧ fitAllW ls cs = true := by
  obtain ⟨fuel, hf⟩ := h
  have hcs : ∃ cs, v = .agg cs := by
    unfold isAggB at ha
    unfold Value.okWide at hv
    split at ha <;> simp_all
    · obtain ⟨cs, h, _⟩ := hv; exact ⟨cs, h⟩
    · obtain ⟨cs, h, _⟩ := hv; exact ⟨cs, h⟩
  obtain ⟨cs, rfl⟩ := hcs
  refine ⟨cs.toList, by simp, ?_⟩
  exact flat_of_trod d fuel t ls _ _ hl (by simpa [Value.cells] using hf)
end
end Go
end

section
namespace Go.Proofs.YtmcjbejccelagaaDoor
theorem wf_u8 {n : Int} (h : (Lit.int .u8 n).wf = true) : 0 ≤ n ∧ n ≤ 255 := by
  simpa [Lit.wf, IntKind.min, IntKind.max, IntKind.signed, IntKind.bits] using h
theorem wf_u32 {n : Int} (h : (Lit.int .u32 n).wf = true) : 0 ≤ n ∧ n ≤ 4294967295 := by
  simpa [Lit.wf, IntKind.min, IntKind.max, IntKind.signed, IntKind.bits] using h
theorem wf_i32 {n : Int} (h : (Lit.int .i32 n).wf = true) : -2147483648 ≤ n ∧ n ≤ 2147483647 := by
  simpa [Lit.wf, IntKind.min, IntKind.max, IntKind.signed, IntKind.bits] using h
theorem wf_i64 {n : Int} (h : (Lit.int .i64 n).wf = true) : -9223372036854775808 ≤ n ∧ n ≤ 9223372036854775807 := by
  simpa [Lit.wf, IntKind.min, IntKind.max, IntKind.signed, IntKind.bits] using h
end Go.Proofs.YtmcjbejccelagaaDoor
end

section
namespace Go.Proofs.YtmcjbejccelagaaDoor
open Go.RowKit Go.BigFrame Go.Proofs.YtmcjbejccelagaaDoorW.PrintWords Go.Proofs.YtmcjbejccelagaaDoorW.PrintLast Go.Proofs.YtmcjbejccelagaaDoorW.PrintMore
open PStateLoses RStateLoses
set_option linter.unusedSimpArgs false
set_option linter.unusedVariables false
/-- A flat value that came in, as a function of the place. -/
theorem ag_of_fit (k : Nat → IntKind) (N : Nat) (cs : List Value) (h : fitAllW ((List.range N).map fun i => Leaf.int (k i)) cs = true) : ∃ st : Nat → Int, cs.toArray = ag k N st ∧ ∀ i, i < N → (Lit.int (k i) (st i)).wf = true := by
  have hl : cs.length = N := by have := fitAllW_length h; simpa using this
  have hat : ∀ i, i < N → ∃ n, cs[i]? = some (.int (k i) n) ∧ (Lit.int (k i) n).wf = true := fun i hi => fitAllW_at i (k i) h (by simp [hi])
  refine ⟨fun i => match cs[i]? with | some (.int _ n) => n | _ => 0, ?_, ?_⟩
  · apply Array.ext
    · simp [ag_size, hl]
    · intro i h1 h2
      have hi : i < N := by simpa [ag_size] using h2
      obtain ⟨n, hn, _⟩ := hat i hi
      have e1 : cs.toArray[i]? = some (.int (k i) n) := by simpa using hn
      have e2 := ag_get k N (fun i => match cs[i]? with | some (.int _ n) => n | _ => 0) i hi
      simp only [hn] at e2
      rw [Array.getElem?_eq_getElem h1] at e1
      rw [Array.getElem?_eq_getElem h2] at e2
      rw [Option.some.inj e1, Option.some.inj e2]
  · intro i hi
    obtain ⟨n, hn, hw⟩ := hat i hi
    simp only [hn]
    exact hw
theorem fitAll_ag (k : Nat → IntKind) (f : Nat → Int) : ∀ l : List Nat, fitAll (l.map fun i => Leaf.int (k i)) (l.map fun i => Value.int (k i) (f i)) = true
  | [] => rfl
  | i :: l => by
    simp only [List.map_cons, fitAll, Bool.and_eq_true]
    exact ⟨by simp [Leaf.fits], fitAll_ag k f l⟩
theorem cellsEq_ag (k : Nat → IntKind) (f : Nat → Int) : ∀ l : List Nat, cellsEq (l.map fun i => Value.int (k i) (f i)) (l.map fun i => Value.int (k i) (f i)) = true
  | [] => rfl
  | i :: l => by
    simp only [List.map_cons, cellsEq, cellEq]
    simp [cellsEq_ag k f l]
theorem eq_state (f : Nat → Int) (w : World) : (Op.equalIn 10000 Rt (.agg (ag kP 142 f)) (.agg (ag kP 142 f))).run Tryd.prog w = .ok true w := by
  have h := eq_flat (P := Tryd.prog) Rt 4 ((List.range 142).map fun i => Leaf.int (kP i)) (by kernel_rfl) (by decide) (by kernel_rfl) ((List.range 142).map fun i => Value.int (kP i) (f i)) ((List.range 142).map fun i => Value.int (kP i) (f i)) (fitAll_ag _ _ _) (fitAll_ag _ _ _) w
  rw [cellsEq_ag] at h
  exact h
set_option maxHeartbeats 4000000 in
set_option maxRecDepth 100000 in
theorem awake26 (w : World) (hT : FadeW w) : Calls Tryd.prog 12 #[] w fun e w' => e = .returned (.bool true) ∧ Below w.heap.size w w' := by
  have hl : ∀ w, FadeW w → Calls Tryd.prog 14 #[.agg (ag kS 142 (fun _ => 0)), .agg #[.int .i64 0, .int .i64 1]] w fun e w' => ∃ v, e = .returned (.tuple #[.agg (ag kS 142 (loseF 0 1 (fun _ => 0))), v]) ∧
      Kd.R (Kd.int .i16) 55 w' w.heap.size (fun _ => True) v (mixF (soundsF 0 (fun _ => 0) 1) (nOf 0)) ∧ Below w.heap.size w w' := fun w hT => lose_any (fun _ => 0) 0 1 (by decide) (by decide) (fun _ _ => by decide) w hT
  have HT := Lib.hid hT
  have a1 : loseF 0 1 (fun _ => 0) 140 = 1013904223 := by decide +kernel
  have a2 : loseF 0 1 (fun _ => 0) 141 = 1 := by decide +kernel
  obtain ⟨f, hf⟩ : ∃ f, loseF 0 1 (fun _ => 0) = f := ⟨_, rfl⟩
  have hm : mixF (soundsF 0 (fun _ => 0) 1) (nOf 0) = [0, 0, 0, 0, 0, 0, 0, 0] := by decide +kernel
  rw [hf] at a1 a2 hl
  rw [hm] at hl
  have hl := Lib.hid hl
  clear hT hm hf
  go_enter Tryd.func12, Tryd.ntmps12
  go_wp2_with (refine build_to rfl St _ rfl (ag kS 142 (fun _ => 0)) (by kernel_rfl) ?_)
  refine (hl.out w HT.out).mono ?_
  rintro e w1 ⟨v, rfl, hv, hb⟩
  obtain ⟨A, c, rfl, hcv, hCv⟩ := Kd.R_reads hv
  obtain ⟨ad, rfl, hc5⟩ := Kd.at_int hCv 5 (by decide) (by decide)
  have hlt := World.block_lt_of_cell? w1 _ hc5
  have e5 : rd [0, 0, 0, 0, 0, 0, 0, 0] 5 = 0 := by decide
  rw [e5, show Int.toNat 5 = 5 from rfl] at hc5
  have HB := Lib.hid hb
  clear hl hv hCv hb e5
  go_wp2_with (refine wpList_store_mid rfl St _ _ rfl w1.heap.size 0 (ag kS 142 f) rfl rfl ?hth ?hin ?hon ?_; (case hth => exact there_row (alloc_at _ _) _ (zeroS_le _)); (case hin => exact infoS_ag _); (case hon => exact ag_one kS 142 _); have q1 := cells_all (alloc_at w1 (.cells Tryd.zeroCells29 St (0, 0))) (N := 142) zeroS_size (cs := ag kS 142 f) (ag_size _ _ _); have ho := only_setCells (w1.alloc (.cells Tryd.zeroCells29 St (0, 0))) w1.heap.size 0 (ag kS 142 f).toList; have hbb : Below w1.heap.size w1 ((w1.alloc (.cells Tryd.zeroCells29 St (0, 0))).setCells w1.heap.size 0 (ag kS 142 f).toList) := ho.below (by (repeat' (first | (with_reducible exact Below.refl _ _) | (with_reducible assumption) | (with_reducible refine Below.alloc ?_ ?_ _) | (with_reducible refine below_grew ?_ ?_ _) | (with_reducible refine Below.setCell ?_ ?_ _) | (with_reducible refine Below.drew ?_) | (with_reducible refine below_drewN ?_ _) | omega | (simp; done) | (simp; omega)))) (Nat.le_refl _); generalize World.setCells (w1.alloc (.cells Tryd.zeroCells29 St (0, 0))) w1.heap.size 0 (ag kS 142 f).toList = w2 at *; have d1 := ag_cell q1 140 (by decide); have d2 := ag_cell q1 141 (by decide); rw [a1, show kS 140 = .u32 from rfl] at d1; rw [a2, show kS 141 = .i64 from rfl] at d2; have d3 : w2.cell? (ad.add 5) = some (.int .i16 0) := (hbb.cell hlt).trans hc5; unfold Addr.add at d3; rw [if_neg (by decide)] at d3; have HBB := Lib.hid hbb; clear q1 ho hbb hc5)
  go_ret
  exact ⟨by rfl, HB.out.trans (HBB.out.mono HB.out.size)⟩
theorem same_l0 (l : List Int) (hl : l.length ≤ 100000) (hb : ∀ i, -32768 ≤ l.getD i 0 ∧ l.getD i 0 ≤ 32767) : ∀ (d k i : Nat), i + d = l.length → d < k → spinetlaw24_Same.l0 k l l (l.length : Int) (i : Int) = some true
  | 0, k, i, h, hk => by
    obtain ⟨k, rfl⟩ : ∃ m, k = m + 1 := ⟨k - 1, by omega⟩
    rw [spinetlaw24_Same.l0, if_neg (by omega)]
  | d + 1, k, i, h, hk => by
    obtain ⟨k, rfl⟩ : ∃ m, k = m + 1 := ⟨k - 1, by omega⟩
    have hbi := hb i
    rw [spinetlaw24_Same.l0, if_pos (by omega), if_pos (by omega), if_pos (by omega), if_pos (by omega), rd_nat, if_pos (w64_id (by omega) (by omega)), show wrap64 ((i : Int) + 1) = ((i + 1 : Nat) : Int) from w64_id (by omega) (by omega)]
    exact same_l0 l hl hb d k (i + 1) (by omega) (by omega)
theorem same_f (l : List Int) (hl : l.length ≤ 100000) (hb : ∀ i, -32768 ≤ l.getD i 0 ∧ l.getD i 0 ≤ 32767) : spinetlaw24_Same.f 100002 l l = some true := by
  unfold spinetlaw24_Same.f
  rw [if_pos rfl]
  exact same_l0 l hl hb l.length _ 0 (by omega) (by omega)
theorem sat16_bd (x : Int) : -32768 ≤ sat16 x ∧ sat16 x ≤ 32767 := by unfold sat16; omega
theorem getD_bd (l : List Int) (h : ∀ x ∈ l, -32768 ≤ x ∧ x ≤ 32767) (i : Nat) : -32768 ≤ l.getD i 0 ∧ l.getD i 0 ≤ 32767 := by
  rw [List.getD_eq_getElem?_getD]
  by_cases hi : i < l.length
  · rw [List.getElem?_eq_getElem hi]; exact h _ (List.getElem_mem hi)
  · rw [List.getElem?_eq_none (by omega)]; simp
theorem mixF_bd (l : List (List Int)) (h : ∀ x ∈ l, ∀ y ∈ x, -32768 ≤ y ∧ y ≤ 32767) (n : Nat) : ∀ y ∈ mixF l n, -32768 ≤ y ∧ y ≤ 32767 := by
  intro y hy
  unfold mixF at hy
  obtain ⟨r, hr, hy⟩ := List.mem_flatten.1 hy
  obtain ⟨i, _, rfl⟩ := List.mem_map.1 hr
  obtain ⟨x, hx, rfl⟩ := List.mem_map.1 hy
  exact getD_bd x (h x hx) i
theorem soundsF_bd (s : Int) (st : Nat → Int) (c : Nat) : ∀ x ∈ soundsF s st c, ∀ y ∈ x, -32768 ≤ y ∧ y ≤ 32767 := by
  intro x hx y hy
  unfold soundsF at hx
  obtain ⟨i, _, rfl⟩ := List.mem_map.1 hx
  unfold soundC at hy
  obtain ⟨z, _, rfl⟩ := List.mem_map.1 hy
  exact sat16_bd z
theorem mixS_same (s : Int) (st : Nat → Int) (c : Nat) (hc : c ≤ 2) : spinetlaw24_Same.f 100002 (mixF (soundsF s st c) (nOf s)) (mixF (soundsF s st c) (nOf s)) = some true := by
  refine same_f _ ?_ (getD_bd _ (mixF_bd _ (soundsF_bd s st c) _))
  rw [mixF_len]
  have h1 : nOf s ≤ 32 := by have := nOf_len s; unfold Len at this; omega
  have h2 : (soundsF s st c).length ≤ 2 := by simp [soundsF]; exact hc
  have := Nat.mul_le_mul h1 h2
  omega
/-- What is left within 32 bits stays so. -/
theorem loseTo_i32 (n nb : Nat) (L : Int) (st : Nat → Int) (hn : n ≤ 32) (hnb : nb ≤ 5) (h : ∀ j, 10 ≤ j → j < 140 → -2147483648 ≤ st j ∧ st j ≤ 2147483647) : ∀ k, k ≤ 2 → ∀ j, 10 ≤ j → j < 140 → -2147483648 ≤ loseTo n nb L st k j ∧ loseTo n nb L st k j ≤ 2147483647
  | 0, _, j, h1, h2 => h j h1 h2
  | k + 1, hk, j, h1, h2 => by
    have := loseTo_i32 n nb L st hn hnb h k (by omega) j h1 h2
    rw [loseTo, loseC]
    split
    · omega
    · split
      · have := madeAt_bd (histL (loseTo n nb L st k) n k) L (j - (74 + k * 32)); omega
      · split
        · omega
        · rw [if_neg (by omega)]; exact this
theorem loseF_i32 (s : Int) (c : Nat) (st : Nat → Int) (hs : 0 ≤ s ∧ s ≤ 2) (hc : c ≤ 2) (h : ∀ j, 10 ≤ j → j < 140 → -2147483648 ≤ st j ∧ st j ≤ 2147483647) : ∀ j, 10 ≤ j → j < 140 → -2147483648 ≤ loseF s c st j ∧ loseF s c st j ≤ 2147483647 := by
  intro j h1 h2
  unfold loseF
  rw [if_neg (by omega), if_neg (by omega)]
  exact loseTo_i32 _ _ _ st (by have := nOf_len s; unfold Len at this; omega) (by unfold nbOf; omega) h c hc j h1 h2
set_option maxHeartbeats 4000000 in
set_option maxRecDepth 100000 in
theorem stateLoses_any (st : Nat → Int) (h1 : ∀ j, j < 10 → st j ≤ 9223372036854775807) (h2 : ∀ j, 10 ≤ j → j < 140 → -2147483648 ≤ st j ∧ st j ≤ 2147483647) (h3 : 0 ≤ st 140 ∧ st 140 ≤ 4294967295) (a b : Int) (ha : 0 ≤ a ∧ a ≤ 255) (hb : 0 ≤ b ∧ b ≤ 255) (w : World) (hT : FadeW w) :
    Calls Tryd.prog 3 #[.agg (ag kS 142 st), .agg #[.int .u8 a, .int .u8 b]] w fun e w' => e = .returned (.bool true) ∧ Below w.heap.size w w' := by
  have haw := Lib.hid (fun w hT => awake26 w hT)
  have hmo := Lib.hid (fun w => mode26 a b ha hb w)
  obtain ⟨c, hc⟩ : ∃ c : Nat, (c : Int) = b % 2 + 1 := ⟨(b % 2 + 1).toNat, by omega⟩
  obtain ⟨s, hs⟩ : ∃ s, a % 3 = s := ⟨_, rfl⟩
  have hs3 : 0 ≤ s ∧ s ≤ 2 := by omega
  have hc2 : 1 ≤ c ∧ c ≤ 2 := by omega
  rw [hs, ← hc] at hmo
  have hlo := Lib.hid (fun w hT => lose_any st s c hs3 hc2 h1 w hT)
  have hrl := Lib.hid (fun w => refLose_any st s c hs3 hc2 h1 h3 w)
  have hp1 := Lib.hid (fun w => plainS_any st h2 w)
  have hp2 := Lib.hid (fun w => plainS_any (loseF s c st) (loseF_i32 s c st hs3 hc2.2 h2) w)
  obtain ⟨f, hf⟩ : ∃ f, loseF s c st = f := ⟨_, rfl⟩
  obtain ⟨x, hx⟩ : ∃ x, mixF (soundsF s st c) (nOf s) = x := ⟨_, rfl⟩
  have hsm := mixS_same s st c hc2.2
  rw [hf, hx] at hlo hrl
  rw [hf] at hp2
  rw [hx] at hsm
  have HSM := Lib.hid hsm
  have heq := Lib.hid (fun w => eq_state f w)
  have HT := Lib.hid hT
  clear hc hs hs3 hc2 h1 h2 h3 ha hb hf hx hsm hT
  go_enter Tryd.func3, Tryd.ntmps3
  go_upto_region 4 with (first | (go_at_call 12; refine (haw.out _ (HT.out.below (by (repeat' (first | (with_reducible exact Below.refl _ _) | (with_reducible assumption) | (with_reducible refine Below.alloc ?_ ?_ _) | (with_reducible refine below_grew ?_ ?_ _) | (with_reducible refine Below.setCell ?_ ?_ _) | (with_reducible refine Below.drew ?_) | (with_reducible refine below_drewN ?_ _) | omega | (simp; done) | (simp; omega)))))).mono ?_; rintro e wa ⟨rfl, hba⟩; obtain ⟨xa, rfl⟩ := below_as_grew hba; clear hba) | (go_at_call 13; refine (hmo.out _).mono ?_; rintro e wm ⟨rfl, hbm⟩; obtain ⟨xm, rfl⟩ := below_as_grew hbm; clear hbm))
  generalize hpp : w.heap.size + 1 + 1 + (xa.objs.size + xm.objs.size) = p
  refine cut_world (fun V => Below w.heap.size w V ∧ w.heap.size < V.heap.size ∧ p < V.heap.size ∧ Bx w.heap.size St kS 142 st V ∧ V.heap[p]? = some (.cells #[.int .i64 s, .int .i64 c] 33 (0, 0))) ⟨by (repeat' (first | (with_reducible exact Below.refl _ _) | (with_reducible assumption) | (with_reducible refine Below.alloc ?_ ?_ _) | (with_reducible refine below_grew ?_ ?_ _) | (with_reducible refine Below.setCell ?_ ?_ _) | (with_reducible refine Below.drew ?_) | (with_reducible refine below_drewN ?_ _) | omega | (simp; done) | (simp; omega))), by simp; omega, by simp; omega, ?_, ?_⟩ ?_
  · have hq : Below (w.alloc (.cells (ag kS 142 st) St (0, 0))).heap.size (w.alloc (.cells (ag kS 142 st) St (0, 0))) ((((w.alloc (.cells (ag kS 142 st) St (0, 0))).alloc (.cells #[.int .u8 a, .int .u8 b] 30 (0, 0))).grew ⟨xa.objs ++ xm.objs, xm.drawn⟩).alloc (.cells #[.int .i64 s, .int .i64 c] 33 (0, 0))) := by (repeat' (first | (with_reducible exact Below.refl _ _) | (with_reducible assumption) | (with_reducible refine Below.alloc ?_ ?_ _) | (with_reducible refine below_grew ?_ ?_ _) | (with_reducible refine Below.setCell ?_ ?_ _) | (with_reducible refine Below.drew ?_) | (with_reducible refine below_drewN ?_ _) | omega | (simp; done) | (simp; omega)))
    exact (hq.block w.heap.size (by simp)).trans (alloc_at _ _)
  · have := alloc_at (((w.alloc (.cells (ag kS 142 st) St (0, 0))).alloc (.cells #[.int .u8 a, .int .u8 b] 30 (0, 0))).grew ⟨xa.objs ++ xm.objs, xm.drawn⟩) (.cells #[.int .i64 s, .int .i64 c] 33 (0, 0))
    rw [show (((w.alloc (.cells (ag kS 142 st) St (0, 0))).alloc (.cells #[.int .u8 a, .int .u8 b] 30 (0, 0))).grew ⟨xa.objs ++ xm.objs, xm.drawn⟩).heap.size = p from by rw [← hpp]; simp] at this
    exact this
  clear hpp
  rintro V ⟨hV, hVs, hVp, hVb, hVm⟩
  generalize hBd : w.heap.size = B at *
  have HBd := Lib.hid hBd
  have HV := Lib.hid hV
  have HVB := Lib.hid hVb
  have HVM := Lib.hid hVm
  have HTV := Lib.hid (HT.out.below (hBd.symm ▸ hV))
  have m0 := (block_facts hVm).1 0
  have m1 := (block_facts hVm).1 1
  simp only [List.getElem?_toArray, List.getElem?_cons_zero, List.getElem?_cons_succ] at m0 m1
  clear hBd hV hVb hVm
  go_wp2_with ((refine wpList_load_row rfl St _ rfl B rfl _ (ag kS 142 st) (0, 0) _ HVB.out Tryd.underlying29 rfl ?hin ?_; (case hin => exact infoS_ag _)))
  refine (hlo.out _ HTV.out).mono ?_
  rintro e w1 ⟨v, rfl, hv, hb1⟩
  obtain ⟨A, cx, rfl, hcx, hCx⟩ := Kd.R_reads hv
  have HB1 := Lib.hid hb1
  have HCX := Lib.hid hCx
  clear hb1 hCx hv
  go_upto_region 5 with (refine wpList_store_mid rfl St _ _ rfl w1.heap.size 0 (ag kS 142 f) rfl rfl ?hth ?hin ?hon ?_; (case hth => exact there_row (alloc_at _ _) _ (zeroS_le _)); (case hin => exact infoS_ag _); (case hon => exact ag_one kS 142 _))
  have q1 := cells_all (alloc_at w1 (.cells Tryd.zeroCells29 St (0, 0))) (N := 142) zeroS_size (cs := ag kS 142 f) (ag_size _ _ _)
  have ho := only_setCells (w1.alloc (.cells Tryd.zeroCells29 St (0, 0))) w1.heap.size 0 (ag kS 142 f).toList
  have hbb : Below w1.heap.size w1 ((w1.alloc (.cells Tryd.zeroCells29 St (0, 0))).setCells w1.heap.size 0 (ag kS 142 f).toList) := ho.below (by (repeat' (first | (with_reducible exact Below.refl _ _) | (with_reducible assumption) | (with_reducible refine Below.alloc ?_ ?_ _) | (with_reducible refine below_grew ?_ ?_ _) | (with_reducible refine Below.setCell ?_ ?_ _) | (with_reducible refine Below.drew ?_) | (with_reducible refine below_drewN ?_ _) | omega | (simp; done) | (simp; omega)))) (Nat.le_refl _)
  have hsz := HB1.out.size
  refine cut_world (fun Z => Below V.heap.size V Z ∧ w1.heap.size < Z.heap.size ∧ Bx w1.heap.size St kS 142 f Z ∧ Kd.C (Kd.int .i16) Z A x.length x) ⟨HB1.out.trans (hbb.mono hsz), by rw [ho.size]; simp, q1, Kd.C_below HCX.out hbb⟩ ?_
  clear q1 ho hbb
  rintro Z ⟨hZ, hzs, hzb, hzC⟩
  generalize w1.heap.size = q at *
  have hVZ := hZ.size
  have HZ := Lib.hid hZ
  have HZB := Lib.hid hzb
  have HZC := Lib.hid hzC
  have z0 := (block_facts ((hZ.block p hVp).trans HVM.out)).1 0
  have z1 := (block_facts ((hZ.block p hVp).trans HVM.out)).1 1
  simp only [List.getElem?_toArray, List.getElem?_cons_zero, List.getElem?_cons_succ] at z0 z1
  have hpz : p < Z.heap.size := by omega
  have HZS := Lib.hid ((hZ.block B hVs).trans HVB.out)
  clear hZ hzb hzC m0 m1 HB1 HCX hlo haw hmo
  refine wp_region_inv [] (fun W => Below Z.heap.size Z W) (fun W W' => TT Z Rt (ag kP 142 f) W W') 12 (by kernel_rfl) (by kernel_rfl) (by kernel_rfl) ((Below.refl _ _).drew) (fun W W' h h' => h.trans h'.below) (fun _ _ h => h.below.size) ?_
  simp only [List.take_succ_cons, List.take_zero, List.drop_succ_cons, List.drop_zero]
  refine wpInv_det (by kernel_rfl) (by kernel_rfl) ?_
  apply Exists.intro
  refine ⟨?_, ?_, ?_⟩
  · intro U W hC hH
    have hc1 := (bcell hC).1
    have hf1 := (bcell hC).2
    simp only [HypsU, predsOf, Region.binds, List.filterMap_cons, List.filterMap_nil, if_true, List.nil_append, List.cons_append, List.getD_cons_zero, List.getD_cons_succ] at hH
    simp only [fillPuts, Act.put, List.setIfInBounds_toArray, List.set_cons_zero, List.set_cons_succ, Nat.reduceAdd]
    go_wp2_with (refine wpList_load_row rfl St _ rfl B rfl _ (ag kS 142 st) (0, 0) _ ((hC.block B (by omega)).trans HZS.out) Tryd.underlying29 rfl ?hin ?_; (case hin => exact infoS_ag _))
    refine ⟨rfl, rfl, by first | exact TT.of_below hC.size (by (repeat' (first | (with_reducible exact Below.refl _ _) | (with_reducible assumption) | (with_reducible refine Below.alloc ?_ ?_ _) | (with_reducible refine below_grew ?_ ?_ _) | (with_reducible refine Below.setCell ?_ ?_ _) | (with_reducible refine Below.drew ?_) | (with_reducible refine below_drewN ?_ _) | omega | (simp; done) | (simp; omega)))) | assumption, ?_⟩
    conv => lhs; whnf
    try rfl
  · exact fun _ => rfl
  simp only [List.nil_append, List.cons_append, Nat.reduceAdd]
  refine wpInv_det (by kernel_rfl) (by kernel_rfl) ?_
  apply Exists.intro
  refine ⟨?_, ?_, ?_⟩
  · intro U W hC hH
    have hc1 := (bcell hC).1
    have hf1 := (bcell hC).2
    simp only [HypsU, predsOf, Region.binds, List.filterMap_cons, List.filterMap_nil, if_true, List.nil_append, List.cons_append, List.getD_cons_zero, List.getD_cons_succ] at hH
    simp only [fillPuts, Act.put, List.setIfInBounds_toArray, List.set_cons_zero, List.set_cons_succ, Nat.reduceAdd]
    go_wp2_with fail; refine (hp1.out _).mono ?_; rintro e w' ⟨rfl, hb1⟩; obtain ⟨x1, rfl⟩ := below_as_grew hb1; clear hb1; go_wp2_with fail
    refine ⟨rfl, rfl, by first | exact TT.of_below hC.size (by (repeat' (first | (with_reducible exact Below.refl _ _) | (with_reducible assumption) | (with_reducible refine Below.alloc ?_ ?_ _) | (with_reducible refine below_grew ?_ ?_ _) | (with_reducible refine Below.setCell ?_ ?_ _) | (with_reducible refine Below.drew ?_) | (with_reducible refine below_drewN ?_ _) | omega | (simp; done) | (simp; omega)))) | assumption, ?_⟩
    conv => lhs; whnf
    try rfl
  · exact fun _ => rfl
  simp only [List.nil_append, List.cons_append, Nat.reduceAdd]
  refine wpInv_det (by kernel_rfl) (by kernel_rfl) ?_
  apply Exists.intro
  refine ⟨?_, ?_, ?_⟩
  · intro U W hC hH
    have hc1 := (bcell hC).1
    have hf1 := (bcell hC).2
    simp only [HypsU, predsOf, Region.binds, List.filterMap_cons, List.filterMap_nil, if_true, List.nil_append, List.cons_append, List.getD_cons_zero, List.getD_cons_succ] at hH
    simp only [fillPuts, Act.put, List.setIfInBounds_toArray, List.set_cons_zero, List.set_cons_succ, Nat.reduceAdd]
    go_wp2_with fail
    refine ⟨rfl, rfl, by first | exact TT.of_below hC.size (by (repeat' (first | (with_reducible exact Below.refl _ _) | (with_reducible assumption) | (with_reducible refine Below.alloc ?_ ?_ _) | (with_reducible refine below_grew ?_ ?_ _) | (with_reducible refine Below.setCell ?_ ?_ _) | (with_reducible refine Below.drew ?_) | (with_reducible refine below_drewN ?_ _) | omega | (simp; done) | (simp; omega)))) | assumption, ?_⟩
    conv => lhs; whnf
    try rfl
  · exact fun _ => rfl
  simp only [List.nil_append, List.cons_append, Nat.reduceAdd]
  refine wpInv_det (by kernel_rfl) (by kernel_rfl) ?_
  apply Exists.intro
  refine ⟨?_, ?_, ?_⟩
  · intro U W hC hH
    have hc1 := (bcell hC).1
    have hf1 := (bcell hC).2
    simp only [HypsU, predsOf, Region.binds, List.filterMap_cons, List.filterMap_nil, if_true, List.nil_append, List.cons_append, List.getD_cons_zero, List.getD_cons_succ] at hH
    simp only [fillPuts, Act.put, List.setIfInBounds_toArray, List.set_cons_zero, List.set_cons_succ, Nat.reduceAdd]
    go_wp2_with fail
    refine ⟨rfl, rfl, by first | exact TT.of_below hC.size (by (repeat' (first | (with_reducible exact Below.refl _ _) | (with_reducible assumption) | (with_reducible refine Below.alloc ?_ ?_ _) | (with_reducible refine below_grew ?_ ?_ _) | (with_reducible refine Below.setCell ?_ ?_ _) | (with_reducible refine Below.drew ?_) | (with_reducible refine below_drewN ?_ _) | omega | (simp; done) | (simp; omega)))) | assumption, ?_⟩
    conv => lhs; whnf
    try rfl
  · exact fun _ => rfl
  simp only [List.nil_append, List.cons_append, Nat.reduceAdd]
  refine wpInv_det (by kernel_rfl) (by kernel_rfl) ?_
  apply Exists.intro
  refine ⟨?_, ?_, ?_⟩
  · intro U W hC hH
    have hc1 := (bcell hC).1
    have hf1 := (bcell hC).2
    simp only [HypsU, predsOf, Region.binds, List.filterMap_cons, List.filterMap_nil, if_true, List.nil_append, List.cons_append, List.getD_cons_zero, List.getD_cons_succ] at hH
    simp only [fillPuts, Act.put, List.setIfInBounds_toArray, List.set_cons_zero, List.set_cons_succ, Nat.reduceAdd]
    go_wp2_with fail
    refine ⟨rfl, rfl, by first | exact TT.of_below hC.size (by (repeat' (first | (with_reducible exact Below.refl _ _) | (with_reducible assumption) | (with_reducible refine Below.alloc ?_ ?_ _) | (with_reducible refine below_grew ?_ ?_ _) | (with_reducible refine Below.setCell ?_ ?_ _) | (with_reducible refine Below.drew ?_) | (with_reducible refine below_drewN ?_ _) | omega | (simp; done) | (simp; omega)))) | assumption, ?_⟩
    conv => lhs; whnf
    try rfl
  · exact fun _ => rfl
  simp only [List.nil_append, List.cons_append, Nat.reduceAdd]
  refine wpInv_det (by kernel_rfl) (by kernel_rfl) ?_
  apply Exists.intro
  refine ⟨?_, ?_, ?_⟩
  · intro U W hC hH
    have hc1 := (bcell hC).1
    have hf1 := (bcell hC).2
    simp only [HypsU, predsOf, Region.binds, List.filterMap_cons, List.filterMap_nil, if_true, List.nil_append, List.cons_append, List.getD_cons_zero, List.getD_cons_succ] at hH
    simp only [fillPuts, Act.put, List.setIfInBounds_toArray, List.set_cons_zero, List.set_cons_succ, Nat.reduceAdd]
    go_wp2_with fail
    refine ⟨rfl, rfl, by first | exact TT.of_below hC.size (by (repeat' (first | (with_reducible exact Below.refl _ _) | (with_reducible assumption) | (with_reducible refine Below.alloc ?_ ?_ _) | (with_reducible refine below_grew ?_ ?_ _) | (with_reducible refine Below.setCell ?_ ?_ _) | (with_reducible refine Below.drew ?_) | (with_reducible refine below_drewN ?_ _) | omega | (simp; done) | (simp; omega)))) | assumption, ?_⟩
    conv => lhs; whnf
    try rfl
  · exact fun _ => rfl
  simp only [List.nil_append, List.cons_append, Nat.reduceAdd]
  refine ⟨fun U W => ∃ v, U 6 = .tuple #[.agg (ag kP 142 f), v] ∧ Kd.R (Kd.int .i64) 2 W Z.heap.size (fun _ => True) v x, fun _ _ => rfl, ?_, ?_, ?_⟩
  · rintro U W W' hC hT ⟨v, h6, hv⟩
    exact ⟨v, h6, R_TT hv hT (by decide)⟩
  · intro U W hC hH
    simp only [HypsU, predsOf, Region.binds, List.filterMap_cons, List.filterMap_nil, if_true, List.nil_append, List.cons_append, List.getD_cons_zero, List.getD_cons_succ] at hH
    simp only [fillPuts, Act.put, List.setIfInBounds_toArray, List.set_cons_zero, List.set_cons_succ, Nat.reduceAdd]
    go_wp2_with fail
    refine (hrl.out _).mono ?_
    rintro e W' ⟨v, rfl, hv, hb⟩
    go_wp2_with fail
    refine ⟨rfl, rfl, TT.of_below hC.size hb, ⟨v, updU_eq _ _ _, Kd.R_lower hv hC.size⟩, fun h => by cases h⟩
  refine ⟨fun U W => ∃ v, U 7 = .tuple #[.agg (ag kP 142 f), v] ∧ Kd.R (Kd.int .i64) 2 W Z.heap.size (fun _ => True) v x, fun _ _ => rfl, ?_, ?_, ?_⟩
  · rintro U W W' hC hT ⟨v, h6, hv⟩
    exact ⟨v, h6, R_TT hv hT (by decide)⟩
  · intro U W hC hH
    simp only [HypsU, predsOf, Region.binds, List.filterMap_cons, List.filterMap_nil, if_true, List.nil_append, List.cons_append, List.getD_cons_zero, List.getD_cons_succ] at hH
    obtain ⟨⟨v, h6, hv⟩, -⟩ := hH
    simp only [fillPuts, Act.put, List.setIfInBounds_toArray, List.set_cons_zero, List.set_cons_succ, Nat.reduceAdd, h6]
    go_wp2_with fail
    refine ⟨rfl, rfl, TT.of_below hC.size (Below.refl _ _), ⟨v, updU_eq _ _ _, hv⟩, fun h => by cases h⟩
  refine wpInv_det (by kernel_rfl) (by kernel_rfl) ?_
  apply Exists.intro
  refine ⟨?_, ?_, ?_⟩
  · intro U W hC hH
    have hc1 := (bcell hC).1
    have hf1 := (bcell hC).2
    simp only [HypsU, predsOf, Region.binds, List.filterMap_cons, List.filterMap_nil, if_true, List.nil_append, List.cons_append, List.getD_cons_zero, List.getD_cons_succ] at hH
    simp only [fillPuts, Act.put, List.setIfInBounds_toArray, List.set_cons_zero, List.set_cons_succ, Nat.reduceAdd]
    obtain ⟨⟨v, h6, hv⟩, -⟩ := hH; simp only [h6]; go_wp2_with fail
    refine ⟨rfl, rfl, by first | exact TT.of_below hC.size (by (repeat' (first | (with_reducible exact Below.refl _ _) | (with_reducible assumption) | (with_reducible refine Below.alloc ?_ ?_ _) | (with_reducible refine below_grew ?_ ?_ _) | (with_reducible refine Below.setCell ?_ ?_ _) | (with_reducible refine Below.drew ?_) | (with_reducible refine below_drewN ?_ _) | omega | (simp; done) | (simp; omega)))) | assumption, ?_⟩
    conv => lhs; whnf
    try rfl
  · exact fun _ => rfl
  simp only [List.nil_append, List.cons_append, Nat.reduceAdd]
  refine ⟨fun U W => Kd.R (Kd.int .i64) 2 W Z.heap.size (fun _ => True) (U 9) x, fun _ _ => rfl, ?_, ?_, ?_⟩
  · rintro U W W' hC hT hv
    exact R_TT hv hT (by decide)
  · intro U W hC hH
    simp only [HypsU, predsOf, Region.binds, List.filterMap_cons, List.filterMap_nil, if_true, List.nil_append, List.cons_append, List.getD_cons_zero, List.getD_cons_succ] at hH
    obtain ⟨⟨v, h6, hv⟩, -⟩ := hH
    simp only [fillPuts, Act.put, List.setIfInBounds_toArray, List.set_cons_zero, List.set_cons_succ, Nat.reduceAdd]
    simp only [h6]
    go_wp2_with fail
    refine ⟨rfl, rfl, TT.of_below hC.size (Below.refl _ _), by rw [updU_eq]; exact hv, fun h => by cases h⟩
  refine ⟨fun U W => ∃ q2 cs, U 10 = .pointer (some ⟨q2, 0, none⟩) ∧ Z.heap.size ≤ q2 ∧ W.heap[q2]? = some (.cells cs Rt (0, 0)) ∧ cs.size = 142, fun _ _ => rfl, ?_, ?_, ?_⟩
  · rintro U W W' hC hT ⟨q2, cs, h10, hq2, hcs, hsz⟩
    rcases hT.own q2 cs _ hcs with h | h
    · exact ⟨q2, cs, h10, hq2, h, hsz⟩
    · exact ⟨q2, _, h10, hq2, h, ag_size _ _ _⟩
  · intro U W hC hH
    simp only [HypsU, predsOf, Region.binds, List.filterMap_cons, List.filterMap_nil, if_true, List.nil_append, List.cons_append, List.getD_cons_zero, List.getD_cons_succ] at hH
    simp only [fillPuts, Act.put, List.setIfInBounds_toArray, List.set_cons_zero, List.set_cons_succ, Nat.reduceAdd]
    go_wp2_with fail
    exact ⟨rfl, rfl, TT.of_below hC.size (by (repeat' (first | (with_reducible exact Below.refl _ _) | (with_reducible assumption) | (with_reducible refine Below.alloc ?_ ?_ _) | (with_reducible refine below_grew ?_ ?_ _) | (with_reducible refine Below.setCell ?_ ?_ _) | (with_reducible refine Below.drew ?_) | (with_reducible refine below_drewN ?_ _) | omega | (simp; done) | (simp; omega)))), ⟨W.heap.size, _, updU_eq _ _ _, hC.size, alloc_at _ _, zero42_size⟩, fun h => by cases h⟩
  refine ⟨fun U W => ∃ q2, U 10 = .pointer (some ⟨q2, 0, none⟩) ∧ Z.heap.size ≤ q2 ∧ W.heap[q2]? = some (.cells (ag kP 142 f) Rt (0, 0)), fun _ _ => rfl, ?_, ?_, ?_⟩
  · rintro U W W' hC hT ⟨q2, h10, hq2, hcs⟩
    rcases hT.own q2 _ _ hcs with h | h
    · exact ⟨q2, h10, hq2, h⟩
    · exact ⟨q2, h10, hq2, h⟩
  · intro U W hC hH
    simp only [HypsU, predsOf, Region.binds, List.filterMap_cons, List.filterMap_nil, if_true, List.nil_append, List.cons_append, List.getD_cons_zero, List.getD_cons_succ] at hH
    simp only [fillPuts, Act.put, List.setIfInBounds_toArray, List.set_cons_zero, List.set_cons_succ, Nat.reduceAdd]
    obtain ⟨⟨q2, cs, h10, hq2, hcs, hsz⟩, h8, -⟩ := hH
    simp only [h10, h8]
    go_wp2_with (refine wpList_store_mid rfl Rt _ _ rfl q2 0 (ag kP 142 f) rfl rfl ?hth ?hin ?hon ?_; (case hth => exact there_row hcs _ (by rw [ag_size, hsz]; exact Nat.le_refl _)); (case hin => exact infoR_ag _); (case hon => exact ag_one kP 142 _))
    have q1 := cells_all hcs (N := 142) hsz (cs := ag kP 142 f) (ag_size _ _ _)
    exact ⟨rfl, rfl, TT_store hq2 hcs (only_setCells _ _ _ _) q1, ⟨q2, by unfold updU; rw [if_neg (by decide)]; exact h10, hq2, q1⟩⟩
  simp only [List.nil_append, List.cons_append, Nat.reduceAdd, fillPuts, Act.put, List.setIfInBounds_toArray, List.set_cons_zero, List.set_cons_succ]
  rintro U W hC ⟨h0, h1, h2, h3, h4, h5, ⟨v6, h6, -⟩, ⟨v7, h7, -⟩, h8, h9, -, ⟨q2, h10, hq2, hqb⟩, -⟩ -
  obtain ⟨A9, c9, h9e, hc9, hC9⟩ := Kd.R_reads h9
  simp only [h0, h1, h2, h3, h4, h5, h6, h7, h8, h9e, h10]
  clear h0 h1 h2 h3 h4 h5 h6 h7 h8 h9e h10 h9
  have hZs := hC.size
  go_upto_region 6 with fail
  refine cut_world (fun Y => Below V.heap.size V Y ∧ q < Y.heap.size ∧ Bx q St kS 142 f Y ∧ Bx q2 Rt kP 142 f Y ∧ Kd.C (Kd.int .i16) Y A x.length x ∧ Kd.C (Kd.int .i64) Y A9 x.length x) ⟨HZ.out.trans (hC.mono hVZ), by omega, (hC.block q hzs).trans HZB.out, hqb, Kd.C_below HZC.out hC, hC9⟩ ?_
  clear hC hqb hC9 hZs hq2
  rintro Y ⟨hY, hYq, hYb, hYr, hYc, hYd⟩
  have HY := Lib.hid hY
  have HYB := Lib.hid hYb
  have HYR := Lib.hid hYr
  have HYC := Lib.hid hYc
  have HYD := Lib.hid hYd
  have hYs : V.heap.size ≤ Y.heap.size := hY.size
  have hYq2 := (block_facts hYr).2.2
  have hsame := Lib.hid (fun W h1 h2 => spinetlaw24_Same.calls 100002 A cx x A9 c9 x true W h1 hcx h2 hc9 HSM.out)
  clear hY hYb hYr hYc hYd
  refine wp_region_inv [] (fun W => Below Y.heap.size Y W) (fun W W' => Below W.heap.size W W') 9 (by kernel_rfl) (by kernel_rfl) (by kernel_rfl) ((Below.refl _ _).drew) (fun W W' h h' => h.trans (h'.mono h.size)) (fun _ _ h => h.size) ?_
  simp only [List.take_succ_cons, List.take_zero, List.drop_succ_cons, List.drop_zero]
  refine wpInv_det (by kernel_rfl) (by kernel_rfl) ?_
  apply Exists.intro
  refine ⟨?_, ?_, ?_⟩
  · intro U W hC hH
    have hc1 := (bcell hC).1
    have hf1 := (bcell hC).2
    simp only [HypsU, predsOf, Region.binds, List.filterMap_cons, List.filterMap_nil, if_true, List.nil_append, List.cons_append, List.getD_cons_zero, List.getD_cons_succ] at hH
    simp only [fillPuts, Act.put, List.setIfInBounds_toArray, List.set_cons_zero, List.set_cons_succ, Nat.reduceAdd]
    go_wp2_with (refine wpList_load_row rfl St _ rfl q rfl _ (ag kS 142 f) (0, 0) _ ((hC.block q hYq).trans HYB.out) Tryd.underlying29 rfl ?hin ?_; (case hin => exact infoS_ag _))
    refine ⟨rfl, rfl, by (repeat' (first | (with_reducible exact Below.refl _ _) | (with_reducible assumption) | (with_reducible refine Below.alloc ?_ ?_ _) | (with_reducible refine below_grew ?_ ?_ _) | (with_reducible refine Below.setCell ?_ ?_ _) | (with_reducible refine Below.drew ?_) | (with_reducible refine below_drewN ?_ _) | omega | (simp; done) | (simp; omega))), ?_⟩
    conv => lhs; whnf
    try rfl
  · exact fun _ => rfl
  simp only [List.nil_append, List.cons_append, Nat.reduceAdd]
  refine wpInv_det (by kernel_rfl) (by kernel_rfl) ?_
  apply Exists.intro
  refine ⟨?_, ?_, ?_⟩
  · intro U W hC hH
    have hc1 := (bcell hC).1
    have hf1 := (bcell hC).2
    simp only [HypsU, predsOf, Region.binds, List.filterMap_cons, List.filterMap_nil, if_true, List.nil_append, List.cons_append, List.getD_cons_zero, List.getD_cons_succ] at hH
    simp only [fillPuts, Act.put, List.setIfInBounds_toArray, List.set_cons_zero, List.set_cons_succ, Nat.reduceAdd]
    go_wp2_with fail; refine (hp2.out _).mono ?_; rintro e w' ⟨rfl, hb1⟩; obtain ⟨x1, rfl⟩ := below_as_grew hb1; clear hb1; go_wp2_with fail
    refine ⟨rfl, rfl, by (repeat' (first | (with_reducible exact Below.refl _ _) | (with_reducible assumption) | (with_reducible refine Below.alloc ?_ ?_ _) | (with_reducible refine below_grew ?_ ?_ _) | (with_reducible refine Below.setCell ?_ ?_ _) | (with_reducible refine Below.drew ?_) | (with_reducible refine below_drewN ?_ _) | omega | (simp; done) | (simp; omega))), ?_⟩
    conv => lhs; whnf
    try rfl
  · exact fun _ => rfl
  simp only [List.nil_append, List.cons_append, Nat.reduceAdd]
  refine wpInv_det (by kernel_rfl) (by kernel_rfl) ?_
  apply Exists.intro
  refine ⟨?_, ?_, ?_⟩
  · intro U W hC hH
    have hc1 := (bcell hC).1
    have hf1 := (bcell hC).2
    simp only [HypsU, predsOf, Region.binds, List.filterMap_cons, List.filterMap_nil, if_true, List.nil_append, List.cons_append, List.getD_cons_zero, List.getD_cons_succ] at hH
    simp only [fillPuts, Act.put, List.setIfInBounds_toArray, List.set_cons_zero, List.set_cons_succ, Nat.reduceAdd]
    go_wp2_with (refine wpList_load_row rfl Rt _ rfl q2 rfl _ (ag kP 142 f) (0, 0) _ ((hC.block q2 hYq2).trans HYR.out) Tryd.underlying42 rfl ?hin ?_; (case hin => exact infoR_ag _))
    refine ⟨rfl, rfl, by (repeat' (first | (with_reducible exact Below.refl _ _) | (with_reducible assumption) | (with_reducible refine Below.alloc ?_ ?_ _) | (with_reducible refine below_grew ?_ ?_ _) | (with_reducible refine Below.setCell ?_ ?_ _) | (with_reducible refine Below.drew ?_) | (with_reducible refine below_drewN ?_ _) | omega | (simp; done) | (simp; omega))), ?_⟩
    conv => lhs; whnf
    try rfl
  · exact fun _ => rfl
  simp only [List.nil_append, List.cons_append, Nat.reduceAdd]
  refine wpInv_det (by kernel_rfl) (by kernel_rfl) ?_
  apply Exists.intro
  refine ⟨?_, ?_, ?_⟩
  · intro U W hC hH
    have hc1 := (bcell hC).1
    have hf1 := (bcell hC).2
    simp only [HypsU, predsOf, Region.binds, List.filterMap_cons, List.filterMap_nil, if_true, List.nil_append, List.cons_append, List.getD_cons_zero, List.getD_cons_succ] at hH
    simp only [fillPuts, Act.put, List.setIfInBounds_toArray, List.set_cons_zero, List.set_cons_succ, Nat.reduceAdd]
    have he := heq.out; go_wp2_with fail
    refine ⟨rfl, rfl, by (repeat' (first | (with_reducible exact Below.refl _ _) | (with_reducible assumption) | (with_reducible refine Below.alloc ?_ ?_ _) | (with_reducible refine below_grew ?_ ?_ _) | (with_reducible refine Below.setCell ?_ ?_ _) | (with_reducible refine Below.drew ?_) | (with_reducible refine below_drewN ?_ _) | omega | (simp; done) | (simp; omega))), ?_⟩
    conv => lhs; whnf
    try rfl
  · exact fun _ => rfl
  simp only [List.nil_append, List.cons_append, Nat.reduceAdd]
  refine wpInv_det (by kernel_rfl) (by kernel_rfl) ?_
  apply Exists.intro
  refine ⟨?_, ?_, ?_⟩
  · intro U W hC hH
    have hc1 := (bcell hC).1
    have hf1 := (bcell hC).2
    simp only [HypsU, predsOf, Region.binds, List.filterMap_cons, List.filterMap_nil, if_true, List.nil_append, List.cons_append, List.getD_cons_zero, List.getD_cons_succ] at hH
    simp only [fillPuts, Act.put, List.setIfInBounds_toArray, List.set_cons_zero, List.set_cons_succ, Nat.reduceAdd]
    simp only [hH.1]; go_wp2_with fail
    refine ⟨rfl, rfl, by (repeat' (first | (with_reducible exact Below.refl _ _) | (with_reducible assumption) | (with_reducible refine Below.alloc ?_ ?_ _) | (with_reducible refine below_grew ?_ ?_ _) | (with_reducible refine Below.setCell ?_ ?_ _) | (with_reducible refine Below.drew ?_) | (with_reducible refine below_drewN ?_ _) | omega | (simp; done) | (simp; omega))), ?_⟩
    conv => lhs; whnf
    try rfl
  · exact fun _ => rfl
  simp only [List.nil_append, List.cons_append, Nat.reduceAdd]
  refine wpInv_det (by kernel_rfl) (by kernel_rfl) ?_
  apply Exists.intro
  refine ⟨?_, ?_, ?_⟩
  · intro U W hC hH
    have hc1 := (bcell hC).1
    have hf1 := (bcell hC).2
    simp only [HypsU, predsOf, Region.binds, List.filterMap_cons, List.filterMap_nil, if_true, List.nil_append, List.cons_append, List.getD_cons_zero, List.getD_cons_succ] at hH
    simp only [fillPuts, Act.put, List.setIfInBounds_toArray, List.set_cons_zero, List.set_cons_succ, Nat.reduceAdd]
    simp only [hH.1]; go_wp2_with fail
    refine ⟨rfl, rfl, by (repeat' (first | (with_reducible exact Below.refl _ _) | (with_reducible assumption) | (with_reducible refine Below.alloc ?_ ?_ _) | (with_reducible refine below_grew ?_ ?_ _) | (with_reducible refine Below.setCell ?_ ?_ _) | (with_reducible refine Below.drew ?_) | (with_reducible refine below_drewN ?_ _) | omega | (simp; done) | (simp; omega))), ?_⟩
    conv => lhs; whnf
    try rfl
  · exact fun _ => rfl
  simp only [List.nil_append, List.cons_append, Nat.reduceAdd]
  refine wpInv_det (by kernel_rfl) (by kernel_rfl) ?_
  apply Exists.intro
  refine ⟨?_, ?_, ?_⟩
  · intro U W hC hH
    have hc1 := (bcell hC).1
    have hf1 := (bcell hC).2
    simp only [HypsU, predsOf, Region.binds, List.filterMap_cons, List.filterMap_nil, if_true, List.nil_append, List.cons_append, List.getD_cons_zero, List.getD_cons_succ] at hH
    simp only [fillPuts, Act.put, List.setIfInBounds_toArray, List.set_cons_zero, List.set_cons_succ, Nat.reduceAdd]
    simp only [hH.1]; go_wp2_with fail
    refine ⟨rfl, rfl, by (repeat' (first | (with_reducible exact Below.refl _ _) | (with_reducible assumption) | (with_reducible refine Below.alloc ?_ ?_ _) | (with_reducible refine below_grew ?_ ?_ _) | (with_reducible refine Below.setCell ?_ ?_ _) | (with_reducible refine Below.drew ?_) | (with_reducible refine below_drewN ?_ _) | omega | (simp; done) | (simp; omega))), ?_⟩
    conv => lhs; whnf
    try rfl
  · exact fun _ => rfl
  simp only [List.nil_append, List.cons_append, Nat.reduceAdd]
  refine wpInv_det (by kernel_rfl) (by kernel_rfl) ?_
  apply Exists.intro
  refine ⟨?_, ?_, ?_⟩
  · intro U W hC hH
    have hc1 := (bcell hC).1
    have hf1 := (bcell hC).2
    simp only [HypsU, predsOf, Region.binds, List.filterMap_cons, List.filterMap_nil, if_true, List.nil_append, List.cons_append, List.getD_cons_zero, List.getD_cons_succ] at hH
    simp only [fillPuts, Act.put, List.setIfInBounds_toArray, List.set_cons_zero, List.set_cons_succ, Nat.reduceAdd]
    simp only [hH.1, hH.2.1, hH.2.2.1]; go_wp2_with fail; refine (hsame.out _ (Kd.C_below HYC.out hC) (Kd.C_below HYD.out hC)).mono ?_; rintro e w' ⟨rfl, hb1⟩; obtain ⟨x1, rfl⟩ := below_as_grew hb1.below; go_wp2_with fail
    refine ⟨rfl, rfl, by (repeat' (first | (with_reducible exact Below.refl _ _) | (with_reducible assumption) | (with_reducible refine Below.alloc ?_ ?_ _) | (with_reducible refine below_grew ?_ ?_ _) | (with_reducible refine Below.setCell ?_ ?_ _) | (with_reducible refine Below.drew ?_) | (with_reducible refine below_drewN ?_ _) | omega | (simp; done) | (simp; omega))), ?_⟩
    conv => lhs; whnf
    try rfl
  · exact fun _ => rfl
  simp only [List.nil_append, List.cons_append, Nat.reduceAdd]
  refine wpInv_det (by kernel_rfl) (by kernel_rfl) ?_
  apply Exists.intro
  refine ⟨?_, ?_, ?_⟩
  · intro U W hC hH
    have hc1 := (bcell hC).1
    have hf1 := (bcell hC).2
    simp only [HypsU, predsOf, Region.binds, List.filterMap_cons, List.filterMap_nil, if_true, List.nil_append, List.cons_append, List.getD_cons_zero, List.getD_cons_succ] at hH
    simp only [fillPuts, Act.put, List.setIfInBounds_toArray, List.set_cons_zero, List.set_cons_succ, Nat.reduceAdd]
    simp only [hH.1, hH.2.1]; go_wp2_with fail
    refine ⟨rfl, rfl, by (repeat' (first | (with_reducible exact Below.refl _ _) | (with_reducible assumption) | (with_reducible refine Below.alloc ?_ ?_ _) | (with_reducible refine below_grew ?_ ?_ _) | (with_reducible refine Below.setCell ?_ ?_ _) | (with_reducible refine Below.drew ?_) | (with_reducible refine below_drewN ?_ _) | omega | (simp; done) | (simp; omega))), ?_⟩
    conv => lhs; whnf
    try rfl
  · exact fun _ => rfl
  simp only [List.nil_append, List.cons_append, Nat.reduceAdd]
  simp only [List.nil_append, List.cons_append, Nat.reduceAdd, fillPuts, Act.put, List.setIfInBounds_toArray, List.set_cons_zero, List.set_cons_succ]
  rintro U W hC ⟨h0, h1, h2, h3, h4, h5, h6, h7, h8, -⟩ -
  simp only [h0, h1, h2, h3, h4, h5, h6, h7, h8]
  clear h0 h1 h2 h3 h4 h5 h6 h7 h8
  go_wp2_with fail
  go_ret
  exact ⟨rfl, by rw [HBd.out]; exact HV.out.trans ((HY.out.trans (hC.mono hYs)).mono (by omega))⟩
end Go.Proofs.YtmcjbejccelagaaDoor
end

section
namespace Go
open Go.RowKit Go.ChangeShapes Go.WideShapes
/-- All arguments read again. -/
theorem trodAll_below {H : Type} {enc : TypeId × Value → H} {P : Program} (hl : laidOutB P = true) {W W' : World} (hb : Below W.heap.size W W') :
    ∀ (ts : List TypeId) (vs : List Value) (ds : List (DataW H)) (ps : List MemPlace), (ts.all fun t => P.readableRec t && decide (t < P.types.size)) = true →
      DataW.TrodAll enc P W 0 (fun _ => true) true ts vs ds ps → (∀ x ∈ ps, x.block < W.heap.size) → DataW.TrodAll enc P W' 0 (fun b => decide (b < W.heap.size)) true ts vs ds ps
  | [], vs, ds, ps, _, h, _ => by
    obtain ⟨rfl, rfl, rfl⟩ := trodAll_nil h
    exact trodAll_mk0
  | t :: ts, vs, ds, ps, hr, h, hlt => by
    simp only [List.all_cons, Bool.and_eq_true, decide_eq_true_eq] at hr
    obtain ⟨v, vs', d, ds', p, q, rfl, rfl, rfl, h1, h2⟩ := trodAll_cons h
    exact trodAll_cons_mk (Below.trod hl hr.1.1 hr.1.2 h1 hb (fun x hx => hlt x (List.mem_append_left _ hx))) (trodAll_below hl hb ts vs' ds' q hr.2 h2 (fun x hx => hlt x (List.mem_append_right _ hx)))
end Go
end

section
namespace Go.Proofs.YtmcjbejccelagaaDoor
open Go.RowKit
theorem fades_of {W : World} {rest : List (String × DataW Unit)} (h : laidMet Tryd.prog (("spinet/conceal.fades", Rows.laid_spinet_conceal_fades) :: rest) W) : FadeW W := by
  have hT := Lib.tabIs_of_head (P := Tryd.prog) (g := 2) (t := 138) (e := 21) (n := 5) (k := .i32) (zs := fadL) (by kernel_rfl) (by kernel_rfl) Tryd.underlying138 Tryd.underlying21 (by kernel_rfl) (by kernel_rfl) h
  have hc := fun i hi => hT.cell (g := 2) (by kernel_rfl) i hi
  exact ⟨World.block_lt_of_cell? W ⟨2, 0, none⟩ (hc 0 (by decide)), hc⟩
end Go.Proofs.YtmcjbejccelagaaDoor
end

section
namespace Go.Proofs.YtmcjbejccelagaaDoor
open Go.ChangeShapes Go.WideShapes Go.ChangeAt Go.WideMaps Go.WideElems Go.RowKit
set_option maxRecDepth 100000 in
theorem stateLoses_lifted (os : Os) (started : os.Started) (H : Type) (enc : TypeId × Value → H) :
    ReturnsInHanded {} Tryd.checked os 3 .any (fun w args => (Rows.stateLosesSpec.pre enc Tryd.prog Tryd.f3 [] false w args ∧ laidMetH Tryd.prog Rows.stateLosesRow.laid w) ∧ sizedMet enc Tryd.prog Tryd.f3 (OpenSpec.ofChange Rows.stateLosesSpec) false w args)
      (Rows.stateLosesSpec.post enc Tryd.prog Tryd.f3 false true false false) := by
  refine returnsInHanded_of_change_and (C := Tryd.checked) (X := fun w _ => laidMetH Tryd.prog Rows.stateLosesRow.laid w) (fun _ _ _ hh h => h.of_heap hh) (by kernel_rfl) started (by kernel_rfl) Tryd.func3
    (ChangeSpec.witness_shaped (enc := enc) (C := Tryd.checked) (os := os) (X := fun w _ => laidMetH Tryd.prog Rows.stateLosesRow.laid w) false (World.doorLaid Tryd.prog 400 os) #[.agg (ag kS 142 (fun _ => 0)), .agg #[.int .u8 0, .int .u8 0]] 8 rfl (World.shaped_of_RefB (by kernel_rfl) (by kernel_rfl)) (by kernel_rfl) (by kernel_rfl) (by kernel_rfl)
      (laidMetH_of_parts3 (fuel := 8) (laidMet_of_run' 8 (by kernel_rfl) (by kernel_rfl)) (by kernel_rfl) (by kernel_rfl))) ?_
  intro W base args ds gs before hval0 hW _ _ hL _
  have hval : ∀ (j : Nat) t v, Tryd.f3.params[j]? = some t → args[j]? = some v → Value.okWide Tryd.prog W .any base t v := hval0
  have hW' := hW
  obtain ⟨p, q, hA0, hV, rfl, hfz, hnd⟩ := hW
  have hA : DataW.TrodAll enc Tryd.prog W 0 (fun _ => true) true Tryd.f3.params.toList args.toList ds p := hA0
  have hA2 := hA
  rw [Tryd.params3] at hA hval
  obtain ⟨v0, v1, d0, d1, p0, p1, rfl, rfl, hp, h0, h1⟩ := trodAll_two hA
  obtain ⟨rfl, rfl⟩ := trodVars_none hV
  obtain ⟨cs, hcv, hfit⟩ := open_flat 4 ((List.range 142).map fun i => Leaf.int (kS i)) (by kernel_rfl) (by kernel_rfl) (hval 0 29 v0 rfl rfl) h0
  obtain ⟨st, hcs, hst⟩ := ag_of_fit kS 142 cs hfit
  rw [hcs] at hcv
  subst hcv
  obtain ⟨ds1, rfl, hfit1⟩ := open_flat 3 [.int .u8, .int .u8] (by kernel_rfl) (by kernel_rfl) (hval 1 30 v1 rfl rfl) h1
  obtain ⟨a, cs1, rfl, wa, hfit1⟩ := fitAllW_int hfit1
  obtain ⟨b, cs2, rfl, wb, hfit1⟩ := fitAllW_int hfit1
  obtain rfl := fitAllW_nil hfit1
  rw [MakeChecks.laidMetH_plain _ _ _ (by kernel_rfl)] at hL
  have hT : FadeW W := fades_of hL
  simp only [List.append_nil] at hW'
  refine (stateLoses_any st (fun j hj => by have := hst j (by omega); rw [show kS j = .i64 from by unfold kS; rw [if_pos hj]] at this; exact (wf_i64 this).2) (fun j h1 h2 => by have := hst j (by omega); rw [show kS j = .i32 from by unfold kS; rw [if_neg (by omega), if_pos (by omega)]] at this; exact wf_i32 this) (wf_u32 (hst 140 (by decide))) a b (wf_u8 wa) (wf_u8 wb) W hT).mono fun e W' ⟨he, hb⟩ => ?_
  subst he
  have e1 : Rows.stateLosesSpec.fn H ([d0, d1] ++ []) = { results := [.lit (.bool true)], args := [d0, d1] } := by simp [Rows.stateLosesSpec]
  refine ⟨_, rfl, _, _, _, [], p, [], hW', ?_, ?_, ?_, hb.frame _, fun h => by cases h⟩
  · rw [e1]; exact trodAll_mk1 (shut_bool Tryd.underlying4 _)
  · rw [e1]; exact trodAll_below (by kernel_rfl) hb _ _ _ _ (by kernel_rfl) hA2 (fun x hx => by simpa using hW'.lt x (by simpa using hx))
  · rw [e1]; rfl
theorem stateLoses_holds : Rows.StateLosesSaid :=
  OpenClaim.holds_of_wide 3 Tryd.f3 rfl rfl rfl rfl rfl rfl rfl ⟨rfl, rfl, rfl, rfl, rfl⟩ rfl rfl rfl rfl rfl (by kernel_rfl) Tryd.func3 (by kernel_rfl)
    (of_decide_eq_true (by kernel_rfl)) (by unfold Func.isWrapper; rw [if_neg (of_decide_eq_false (by kernel_rfl))]; exact ⟨rfl, rfl⟩)
    (fun os started H enc _ => stateLoses_lifted os started H enc)
theorem stateLoses_card : Rows.StateLosesCardSaid :=
  Claim7.holds_tied_plain_at .later [] [.data] true (true, "afcb1a8be3a03c4a2f6d0e7de4c5c372479681309a25fd15814696aeb44f375e") false
    stateLoses_holds (fun _ h => by cases h) (by kernel_rfl) (fun _ h => by cases h) stateLoses_row_tie rfl ⟨rfl, rfl⟩ (by kernel_rfl) rfl
    (fun f fn hf hfn => by
      obtain rfl : f = 3 := Option.some.inj ((show Tryd.prog.funcNamed "spinet/spinetlaw26.StateLoses" = some 3 by kernel_rfl).symm.trans hf) |>.symm
      obtain rfl : fn = Tryd.f3 := (Option.some.inj (Tryd.func3.symm.trans hfn)).symm
      exact ⟨by kernel_rfl, fun j t ht => by
        rw [Tryd.params3] at ht
        have hm : t ∈ [29, 30] := by simpa using Array.mem_of_getElem? ht
        have hall : ([29, 30].all fun u => !Tryd.prog.wantsStandIn u) = true := by kernel_rfl
        exact (show Tryd.prog.wantsStandIn t = false by simpa using List.all_eq_true.1 hall t (by simpa using hm))⟩)
    (by kernel_rfl)
end Go.Proofs.YtmcjbejccelagaaDoor
end

