/-
  ShareLogs: how often each result came is told, and which one most often, up to 60 results. For every input.
  (One text out of these parts: ShareA, ShareP, ShareF, LogK, LogA, LogP, LogM, LogC, LogQ, LogR, Awake15, LogS, Law, LaidW, FlatS, ShareLogsRow.)
-/
import Derived.Test.YtcibajleknhklaaDoorSlge
import Derived.WideKeyPair
import Derived.BigQuiet
import Derived.Carry
import Derived.Great.BuildSlice
import Derived.ProofKit
import Derived.LaidMore
import Derived.OpenShut
import Derived.Stop.Joined
import Derived.Lib.LaidTab
import Derived.Test.YtcibajleknhklaaDoorRows
import Derived.DataReads
import Derived.Test.YtcibajleknhklaaDoorCards
import Derived.Test.YtcibajleknhklaaDoorTie
import Derived.SevenTiedAt
section
namespace Go.Proofs.YtcibajleknhklaaDoor
open Go.RowKit Go.BigFrame Go.Vec Go.Cost
set_option linter.unusedSimpArgs false
set_option linter.unusedVariables false
/-- Of the next level's pulses those that fit, band by band. -/
def finF (s c bud : Int) (nb : Nat) (next : Nat → Int) : Nat → Nat → (Nat → Int) → (Nat → Int)
  | 0, _, k => k
  | f + 1, b, k => if ¬ next b = k b ∧ bud < sumK s c (updI k b (next b)) nb * c then k else finF s c bud nb next f (b + 1) (updI k b (next b))
/-- All pulses up to a level fit. -/
def Fits (s c bud : Int) (sl : Nat → Int) (nb : Nat) (lv : Int) : Prop := sumK s c (atTo s c sl lv nb) nb * c ≤ bud
/-- What the search comes to. -/
structure Found (s c bud : Int) (sl : Nat → Int) (nb : Nat) (lo hi : Int) : Prop where
  lo0 : 0 ≤ lo
  lt : lo < hi
  hi0 : hi ≤ topTo s c sl nb + 1
  low : lo = 0 ∨ Fits s c bud sl nb lo
  high : hi = topTo s c sl nb + 1 ∨ ¬ Fits s c bud sl nb hi
def slTo (s c t : Int) (n : Nat) : Nat → Int := fun b => if b < n then slopeF s c t b else 0
theorem slTo_in (s c t : Int) (nb : Nat) (hnb : bandsF s c = nb) (b : Nat) (hb : b < nb) : 1 ≤ slTo s c t nb b ∧ slTo s c t nb b ≤ 64 := by
  have h5 := bandsF_bd s c
  unfold slTo
  rw [if_pos hb, slopeR_eq s c t b (by omega)]
  exact slopeR_pos t b (by omega)
theorem cellsEq_i64 (f g : Nat → Int) : ∀ l : List Nat, cellsEq (l.map fun i => Value.int .i64 (f i)) (l.map fun i => Value.int .i64 (g i)) = l.all fun i => f i == g i
  | [] => rfl
  | i :: l => by
    simp only [List.map_cons, cellsEq, cellEq, List.all_cons, cellsEq_i64 f g l]
theorem layout5 : layout Tryd.prog 4 A5 = some ((List.range 5).map fun i => Leaf.int (i64s i)) := by kernel_rfl
theorem eq5 (f g : Nat → Int) (w : World) : (Op.equalIn 10000 A5 (.agg (ag i64s 5 f)) (.agg (ag i64s 5 g))).run Tryd.prog w = .ok ((List.range 5).all fun i => f i == g i) w := by
  have h := eq_flat (P := Tryd.prog) A5 4 _ layout5 (by decide) (by kernel_rfl) ((List.range 5).map fun i => Value.int .i64 (f i)) ((List.range 5).map fun i => Value.int .i64 (g i)) (fitAll_ag i64s f _) (fitAll_ag i64s g _) w
  rw [cellsEq_i64] at h
  exact h
theorem eq5_yes (f g : Nat → Int) (h : ∀ j, j < 5 → f j = g j) (w : World) : (Op.equalIn 10000 A5 (.agg (ag i64s 5 f)) (.agg (ag i64s 5 g))).run Tryd.prog w = .ok true w := by
  rw [eq5, show ((List.range 5).all fun i => f i == g i) = true from by
    rw [List.all_eq_true]
    intro j hj
    simpa using h j (by simpa using hj)]
theorem eq5_no (f g : Nat → Int) (j : Nat) (hj : j < 5) (h : ¬ f j = g j) (w : World) : (Op.equalIn 10000 A5 (.agg (ag i64s 5 f)) (.agg (ag i64s 5 g))).run Tryd.prog w = .ok false w := by
  rw [eq5, show ((List.range 5).all fun i => f i == g i) = false from by
    rw [List.all_eq_false]
    exact ⟨j, by simpa using hj, by simpa using h⟩]
theorem JobAt.setSlope {jb hb sh s c sl} {w : World} (h : JobAt jb hb sh s c sl w) (b : Nat) (hb5 : b < 5) (x : Int) (h1 : hb < jb) (h2 : sh < jb) (h3 : 1 < jb) : JobAt jb hb sh s c (updI sl b x) (w.setCell ⟨jb, 3 + b, none⟩ (.int .i64 x)) := by
  have ho := only_setCell w ⟨jb, 3 + b, none⟩ (.int .i64 x)
  have hB : Below jb w (w.setCell ⟨jb, 3 + b, none⟩ (.int .i64 x)) := ho.below (Below.refl jb w) (Nat.le_refl _)
  refine ⟨?_, (ho.block _ (by show hb ≠ jb; omega)).trans h.sha, h.sheet.below h2 hB, ⟨by rw [ho.size]; exact h.wid.1, fun j hj => (World.cell?_of_block (w := w) (ho.block 1 (by show _ ≠ jb; omega))).trans (h.wid.2 j hj)⟩⟩
  rw [setCell_own w jb (3 + b) _ _ _ _ h.job]
  rcases (show b = 0 ∨ b = 1 ∨ b = 2 ∨ b = 3 ∨ b = 4 by omega) with h | h | h | h | h <;> subst h <;> rfl
theorem JobAt.ext {jb hb sh s c sl} {sl' : Nat → Int} {w : World} (h : JobAt jb hb sh s c sl w) (he : ∀ b, b < 5 → sl b = sl' b) : JobAt jb hb sh s c sl' w := by
  obtain ⟨h1, h2, h3, h4⟩ := h
  rw [he 0 (by omega), he 1 (by omega), he 2 (by omega), he 3 (by omega), he 4 (by omega)] at h1
  exact ⟨h1, h2, h3, h4⟩
/-- The call's frame: the mode, the result, the job. -/
structure JS (w : World) (B hb sh : Nat) (s c : Int) (sl : Nat → Int) (W : World) : Prop where
  below : Below B w W
  mo : W.heap[B]? = some (.cells #[.int .i64 s, .int .i64 c] 60 (0, 0))
  rb : Bx (B + 1) A5 i64s 5 (fun _ => 0) W
  job : JobAt (B + 1 + 1) hb sh s c sl W
  hl : hb < B ∧ sh < B ∧ 1 < B
theorem JS.keep {w B hb sh s c sl} {W W' : World} (h : JS w B hb sh s c sl W) (hb' : Below W.heap.size W W') : JS w B hb sh s c sl W' :=
  ⟨h.below.trans (hb'.mono (by have := (block_facts h.mo).2.2; omega)), (hb'.block _ (block_facts h.mo).2.2).trans h.mo, h.rb.keep hb', h.job.keep hb', h.hl⟩
theorem JS.m0 {w B hb sh s c sl} {W : World} (h : JS w B hb sh s c sl W) : W.cell? ⟨B, 0, none⟩ = some (.int .i64 s) := (block_facts h.mo).1 0
theorem JS.m1 {w B hb sh s c sl} {W : World} (h : JS w B hb sh s c sl W) : W.cell? ⟨B, 1, none⟩ = some (.int .i64 c) := (block_facts h.mo).1 1
/-- .. and the pulses, and the next level's. -/
structure JK (w : World) (B hb sh kb xb : Nat) (s c : Int) (sl k nx : Nat → Int) (W : World) : Prop where
  js : JS w B hb sh s c sl W
  o1 : B + 1 + 1 < kb
  o2 : kb < xb
  kk : Bx kb A5 i64s 5 k W
  xx : Bx xb A5 i64s 5 nx W
theorem JK.keep {w B hb sh kb xb s c sl k nx} {W W' : World} (h : JK w B hb sh kb xb s c sl k nx W) (hb' : Below W.heap.size W W') : JK w B hb sh kb xb s c sl k nx W' :=
  ⟨h.js.keep hb', h.o1, h.o2, h.kk.keep hb', h.xx.keep hb'⟩
theorem JS.other {w B hb sh s c sl} {q : Nat} {W W' : World} (h : JS w B hb sh s c sl W) (ho : Only q W W') (hq : B + 1 + 1 < q) : JS w B hb sh s c sl W' := by
  have h1 := h.hl
  exact ⟨ho.below h.below (by omega), (ho.block _ (by omega)).trans h.mo, (ho.block _ (by omega)).trans h.rb, h.job.only ho (by omega) (by omega) (by omega) (by omega), h1⟩
theorem JK.onlyK {w B hb sh kb xb s c sl k nx} {k' : Nat → Int} {W W' : World} (h : JK w B hb sh kb xb s c sl k nx W) (ho : Only kb W W') (hf : Bx kb A5 i64s 5 k' W') : JK w B hb sh kb xb s c sl k' nx W' := by
  have h1 := h.o1
  have h2 := h.o2
  exact ⟨h.js.other ho h1, h1, h2, hf, (ho.block _ (by omega)).trans h.xx⟩
theorem jk_new {w B hb sh s c sl} {wq : World} (h : JS w B hb sh s c sl wq) (k0 k1 : Nat → Int) :
    JK w B hb sh wq.heap.size (wq.heap.size + 1) s c sl k0 k1 ((((wq.alloc (.cells #[.int .i64 0, .int .i64 0, .int .i64 0, .int .i64 0, .int .i64 0] A5 (0, 0))).alloc (.cells #[.int .i64 0, .int .i64 0, .int .i64 0, .int .i64 0, .int .i64 0] A5 (0, 0))).setCells wq.heap.size 0 (ag i64s 5 k0).toList).setCells (wq.heap.size + 1) 0 (ag i64s 5 k1).toList) := by
  obtain ⟨W1, hW1⟩ : ∃ W1, ((wq.alloc (.cells #[.int .i64 0, .int .i64 0, .int .i64 0, .int .i64 0, .int .i64 0] A5 (0, 0))).alloc (.cells #[.int .i64 0, .int .i64 0, .int .i64 0, .int .i64 0, .int .i64 0] A5 (0, 0))) = W1 := ⟨_, rfl⟩
  have hb0 : Below wq.heap.size wq W1 := by subst hW1; (repeat' (first | (with_reducible exact Below.refl _ _) | (with_reducible assumption) | (with_reducible refine Below.alloc ?_ ?_ _) | (with_reducible refine below_grew ?_ ?_ _) | (with_reducible refine Below.setCell ?_ ?_ _) | (with_reducible refine Below.drew ?_) | (with_reducible refine below_drewN ?_ _) | omega | (simp; done) | (simp; omega)))
  have A1 : W1.heap[wq.heap.size]? = some (.cells #[.int .i64 0, .int .i64 0, .int .i64 0, .int .i64 0, .int .i64 0] A5 (0, 0)) := by subst hW1; exact alloc_two _ _ _
  have A2 : W1.heap[wq.heap.size + 1]? = some (.cells #[.int .i64 0, .int .i64 0, .int .i64 0, .int .i64 0, .int .i64 0] A5 (0, 0)) := by subst hW1; exact alloc_secondOf _ _ _
  rw [hW1]
  have o1 := only_setCells W1 wq.heap.size 0 (ag i64s 5 k0).toList
  have c1 := cells_all A1 (N := 5) rfl (cs := ag i64s 5 k0) (ag_size _ _ _)
  have A2' := (o1.block (wq.heap.size + 1) (by omega)).trans A2
  have o2 := only_setCells (W1.setCells wq.heap.size 0 (ag i64s 5 k0).toList) (wq.heap.size + 1) 0 (ag i64s 5 k1).toList
  have c2 := cells_all A2' (N := 5) rfl (cs := ag i64s 5 k1) (ag_size _ _ _)
  have hbb := o2.below (o1.below hb0 (Nat.le_refl _)) (by omega)
  exact ⟨h.keep hbb, h.job.lt.1, by omega, (o2.block _ (by omega)).trans c1, c2⟩
theorem k5_new (W : World) (F : Nat → Int) : Below W.heap.size W ((W.alloc (.cells #[.int .i64 0, .int .i64 0, .int .i64 0, .int .i64 0, .int .i64 0] A5 (0, 0))).setCells W.heap.size 0 (ag i64s 5 F).toList) ∧ Bx W.heap.size A5 i64s 5 F ((W.alloc (.cells #[.int .i64 0, .int .i64 0, .int .i64 0, .int .i64 0, .int .i64 0] A5 (0, 0))).setCells W.heap.size 0 (ag i64s 5 F).toList) :=
  ⟨(only_setCells _ _ _ _).below (by (repeat' (first | (with_reducible exact Below.refl _ _) | (with_reducible assumption) | (with_reducible refine Below.alloc ?_ ?_ _) | (with_reducible refine below_grew ?_ ?_ _) | (with_reducible refine Below.setCell ?_ ?_ _) | (with_reducible refine Below.drew ?_) | (with_reducible refine below_drewN ?_ _) | omega | (simp; done) | (simp; omega)))) (Nat.le_refl _), cells_all (alloc_at W _) (N := 5) rfl (ag_size _ _ _)⟩
theorem JK.size {w B hb sh kb xb s c sl k nx} {W : World} (h : JK w B hb sh kb xb s c sl k nx W) : xb < W.heap.size := (block_facts h.xx).2.2
theorem JK.other {w B hb sh kb xb s c sl k nx} {q : Nat} {W W' : World} (h : JK w B hb sh kb xb s c sl k nx W) (ho : Only q W W') (hq : xb < q) : JK w B hb sh kb xb s c sl k nx W' := by
  have h1 := h.o1
  have h2 := h.o2
  exact ⟨h.js.other ho (by omega), h1, h2, (ho.block _ (by omega)).trans h.kk, (ho.block _ (by omega)).trans h.xx⟩
/-- A share: its sheet. -/
structure ShareAt (hb sh : Nat) (w : World) : Prop where
  sha : w.heap[hb]? = some (.cells #[.pointer (some ⟨sh, 0, none⟩)] 77 (0, 0))
  sheet : SheetOK sh w
set_option maxHeartbeats 4000000 in
set_option maxRecDepth 100000 in
theorem shAlloc (hb sh : Nat) (s c t bud : Int) (nb : Nat) (hnb : bandsF s c = nb) (w : World) (h : ShareAt hb sh w) (hW : WidthW w) :
    Calls Tryd.prog 29 #[.pointer (some ⟨hb, 0, none⟩), .agg #[.int .i64 s, .int .i64 c], .int .i64 t, .int .i64 bud] w fun e w' => ∃ lo, Found s c bud (slTo s c t nb) nb lo (lo + 1) ∧
      e = .returned (.agg (ag i64s 5 (finF s c bud nb (atTo s c (slTo s c t nb) (lo + 1) nb) nb 0 (atTo s c (slTo s c t nb) lo nb)))) ∧ Below w.heap.size w w' := by
  have HS := Lib.hid h
  have HW := Lib.hid hW
  have hbn := Lib.hid (fun w => modeBands s c w)
  rw [hnb] at hbn
  have hnb5 : nb ≤ 5 := by have := bandsF_bd s c; omega
  have hslo := Lib.hid (fun (b : Int) w hT => slope_any s c t b w hT)
  have hsl := slTo_in s c t nb hnb
  have hat := Lib.hid (fun jb lv hlv w h => shAt jb hb sh s c (slTo s c t nb) nb hnb hsl lv hlv w h)
  have htt := Lib.hid (fun jb k w h => shTotal jb hb sh s c (slTo s c t nb) k nb hnb w h)
  have htp := Lib.hid (fun jb w h => shTop jb hb sh s c (slTo s c t nb) nb hnb hsl w h)
  have htb := topTo_bd s c (slTo s c t nb) nb hnb hsl nb (Nat.le_refl _)
  have HTB := Lib.hid htb
  clear hsl htb hnb
  have hlt : hb < w.heap.size := (block_facts h.sha).2.2
  have hlt2 := sheet_lt h.sheet
  have hlt3 := hW.1
  clear h hW
  go_enter Tryd.func29, Tryd.ntmps29
  go_upto_region 2 with fail
  refine cut_world (fun W => JS w w.heap.size hb sh s c (slTo s c t 0) W) ⟨by (repeat' (first | (with_reducible exact Below.refl _ _) | (with_reducible assumption) | (with_reducible refine Below.alloc ?_ ?_ _) | (with_reducible refine below_grew ?_ ?_ _) | (with_reducible refine Below.setCell ?_ ?_ _) | (with_reducible refine Below.drew ?_) | (with_reducible refine below_drewN ?_ _) | omega | (simp; done) | (simp; omega))), ?_, ?_, ?_, ⟨hlt, hlt2, hlt3⟩⟩ ?_
  · exact alloc_three _ _ _ _
  · exact alloc_second _ _ _ _
  · have hbb : Below w.heap.size w (((w.alloc (.cells #[.int .i64 s, .int .i64 c] 60 (0, 0))).alloc (.cells #[.int .i64 0, .int .i64 0, .int .i64 0, .int .i64 0, .int .i64 0] A5 (0, 0))).alloc (.cells #[.pointer (some ⟨hb, 0, none⟩), .int .i64 s, .int .i64 c, .int .i64 0, .int .i64 0, .int .i64 0, .int .i64 0, .int .i64 0] 147 (0, 0))) := by (repeat' (first | (with_reducible exact Below.refl _ _) | (with_reducible assumption) | (with_reducible refine Below.alloc ?_ ?_ _) | (with_reducible refine below_grew ?_ ?_ _) | (with_reducible refine Below.setCell ?_ ?_ _) | (with_reducible refine Below.drew ?_) | (with_reducible refine below_drewN ?_ _) | omega | (simp; done) | (simp; omega)))
    exact ⟨alloc_third _ _ _ _, (hbb.block _ hlt).trans HS.out.sha, HS.out.sheet.below hlt2 hbb, HW.out.below' hbb⟩
  intro V hV
  generalize hBd : w.heap.size = B at *
  have HBd := Lib.hid hBd
  have HV := Lib.hid hV
  have hm0 := hV.m0
  have hm1 := hV.m1
  clear hBd hV hlt hlt2 hlt3 HS HW
  go_wp2_with (go_at_call 53; refine (hbn.out _).mono ?_; rintro e wn ⟨rfl, hbb⟩; have HV2 := Lib.hid (HV.out.keep hbb); clear hbb)
  clear hm0 hm1 HV
  go_loopw [10, 24] (fun v10 cnt wr => ∃ b : Nat, b ≤ nb ∧ cnt = .int .i64 b ∧ JS w B hb sh s c (slTo s c t b) wr) (fun _ cnt _ => nb - (intOf cnt).toNat)
  case atStart => exact ⟨0, by omega, rfl, HV2.out⟩
  case round =>
    clear HV2
    obtain ⟨b, hbl, rfl, hL⟩ := hrel
    have HL := Lib.hid hL
    have hb0 : (0 : Int) ≤ b := by omega
    have hm0 := hL.m0
    have hm1 := hL.m1
    have hmm := (block_facts hL.mo).2.2
    have hjj := hL.job.lt.1
    clear hL
    by_cases hlt : b < nb
    · have hlt' : (b : Int) < nb := by omega
      have hb5 : (b : Int) < 5 := by omega
      go_upto_region 5 with fail
      clear hlt'
      first | refine wp_region_grew2 9 (by kernel_rfl) (by kernel_rfl) ?_ | refine wp_region_grew 9 (by kernel_rfl) (by kernel_rfl) ?_
      simp only [List.take_succ_cons, List.take_zero, List.drop_succ_cons, List.drop_zero]
      repeat (go_big_quiet_step ((go_at_call 74; exact Calls.grew_of (hslo.out _ _ (HL.out.keep (by (repeat' (first | (with_reducible exact Below.refl _ _) | (with_reducible assumption) | (with_reducible refine Below.alloc ?_ ?_ _) | (with_reducible refine below_grew ?_ ?_ _) | (with_reducible refine Below.setCell ?_ ?_ _) | (with_reducible refine Below.drew ?_) | (with_reducible refine below_drewN ?_ _) | omega | (simp; done) | (simp; omega))))).job.wid))))
      refine wpQuiet_nil ?_
      rintro _ ⟨x, rfl⟩
      have hl2 := HL.out.keep (W' := wr.grew x) (by (repeat' (first | (with_reducible exact Below.refl _ _) | (with_reducible assumption) | (with_reducible refine Below.alloc ?_ ?_ _) | (with_reducible refine below_grew ?_ ?_ _) | (with_reducible refine Below.setCell ?_ ?_ _) | (with_reducible refine Below.drew ?_) | (with_reducible refine below_drewN ?_ _) | omega | (simp; done) | (simp; omega))))
      have kc2 := hl2.job.cs b (by omega)
      have kf2 := (block_facts hl2.job.job).2.1 (3 + b)
      have HL2 := Lib.hid hl2
      clear hl2 hm0 hm1 hmm hjj
      go_upto_region 6 with fail
      clear kc2 kf2
      have hjs := HL2.out.job.setSlope b (by omega) (slopeF s c t b) (by have := HL2.out.hl; omega) (by have := HL2.out.hl; omega) (by have := HL2.out.hl; omega)
      have ho := only_setCell (wr.grew x) ⟨B + 1 + 1, 3 + b, none⟩ (.int .i64 (slopeF s c t b))
      refine cut_world (fun W => JS w B hb sh s c (slTo s c t (b + 1)) W) ⟨ho.below HL2.out.below (by show B ≤ B + 1 + 1; omega), (ho.block _ (by show B ≠ B + 1 + 1; omega)).trans HL2.out.mo, (ho.block _ (by show B + 1 ≠ B + 1 + 1; omega)).trans HL2.out.rb, hjs.ext fun j hj => ?_, HL2.out.hl⟩ ?_
      · unfold updI slTo
        by_cases e : j = b
        · rw [if_pos e, if_pos (by omega), e]
        · rw [if_neg e]
          by_cases e2 : j < b
          · rw [if_pos e2, if_pos (by omega)]
          · rw [if_neg e2, if_neg (by omega)]
      clear HL2 HL hjs ho
      intro V5 hV5
      have HV5 := Lib.hid hV5
      clear hV5
      go_wp2_with fail
      go_roundw
      case rel => exact ⟨b + 1, by omega, rfl, HV5.out⟩
      case measure => simp [intOf]; omega
    · have hlt' : ¬ (b : Int) < nb := by omega
      obtain rfl : b = nb := by omega
      clear hlt hmm hjj hm0 hm1
      go_upto_region 7 with fail
      clear hlt'
      go_wp2_with (go_at_call 75; refine (htp.out _ _ HL.out.job).mono ?_; rintro e wn ⟨rfl, hbb⟩; have HV3 := Lib.hid (HL.out.keep hbb); clear hbb)
      have htb := HTB.out
      obtain ⟨T, hT⟩ : ∃ T, topTo s c (slTo s c t b) b = T := ⟨_, rfl⟩
      have HTE := Lib.hid hT
      rw [hT] at htb ⊢
      have hT1 : wrap64 (T + 1) = T + 1 := by unfold wrap64; omega
      rw [hT1]
      clear hT hT1
      obtain ⟨sl, hsl⟩ : ∃ sl, slTo s c t b = sl := ⟨_, rfl⟩
      rw [hsl] at hat htt HV3
      have HSL := Lib.hid hsl
      clear hsl HL
      go_loopw [11, 12, 13] (fun v11 v12 v13 wr => ∃ lo hi : Int, v11 = .int .i64 lo ∧ v12 = .int .i64 hi ∧ Found s c bud sl b lo hi ∧ JS w B hb sh s c sl wr) (fun v11 v12 _ _ => (intOf v12 - intOf v11).toNat)
      case atStart => exact ⟨0, T + 1, rfl, rfl, ⟨Int.le_refl 0, by omega, by rw [← HSL.out, HTE.out]; exact Int.le_refl _, .inl rfl, .inl (by rw [← HSL.out, HTE.out])⟩, HV3.out⟩
      case round =>
        clear HV3
        obtain ⟨lo, hi, rfl, rfl, hFo, hL⟩ := hrel
        have HFO := Lib.hid hFo
        have HL := Lib.hid hL
        have b1 := hFo.lo0
        have b2 := hFo.lt
        have b3 := hFo.hi0
        rw [← HSL.out, HTE.out] at b3
        have hsub : wrap64 (hi - lo) = hi - lo := by unfold wrap64; omega
        have HIN := Lib.hid (And.intro b1 (And.intro b2 b3))
        clear hFo hL
        by_cases hgo : 1 < hi - lo
        · have hadd : wrap64 (lo + hi) = lo + hi := by unfold wrap64; omega
          have h0 : 0 ≤ lo + hi := by omega
          clear b1 b2 b3
          go_upto_region 10 with fail
          obtain ⟨md, hmd⟩ : ∃ md, (lo + hi).tdiv 2 = md := ⟨_, rfl⟩
          have hm2 : md = (lo + hi) / 2 := by rw [← hmd]; exact Int.tdiv_eq_ediv_of_nonneg h0
          have hin := HIN.out
          have hwm : wrap64 md = md := by unfold wrap64; omega
          rw [hmd, hwm]
          have HMB := Lib.hid (show lo < md ∧ md < hi by omega)
          have HMD := Lib.hid (show 0 ≤ md ∧ md ≤ 100000 by omega)
          clear hmd hm2 hin hwm hsub hadd h0 hgo
          by_cases hP : sumK s c (atTo s c sl md b) b * c ≤ bud
          · go_upto_region 11 with (first | (go_at_call 77; refine (hat.out _ md HMD.out _ HL.out.job).mono ?_; rintro e wn ⟨rfl, hbb⟩; have HL1 := Lib.hid (HL.out.keep hbb); clear hbb) | (go_at_call 76; refine (htt.out _ _ _ HL1.out.job).mono ?_; rintro e wq ⟨rfl, hbb⟩; have HL2 := Lib.hid (HL1.out.keep hbb); clear hbb))
            have HF := Lib.hid (show Found s c bud sl b md hi from ⟨by have := HMD.out; omega, HMB.out.2, HFO.out.hi0, .inr hP, HFO.out.high⟩)
            clear hP HFO HL HL1
            go_wp2_with fail
            go_roundw
            case rel => exact ⟨md, hi, rfl, rfl, HF.out, HL2.out⟩
            case measure => have := HMB.out; have := HIN.out; simp [intOf]; omega
          · go_upto_region 12 with (first | (go_at_call 77; refine (hat.out _ md HMD.out _ HL.out.job).mono ?_; rintro e wn ⟨rfl, hbb⟩; have HL1 := Lib.hid (HL.out.keep hbb); clear hbb) | (go_at_call 76; refine (htt.out _ _ _ HL1.out.job).mono ?_; rintro e wq ⟨rfl, hbb⟩; have HL2 := Lib.hid (HL1.out.keep hbb); clear hbb))
            have HF := Lib.hid (show Found s c bud sl b lo md from ⟨HFO.out.lo0, HMB.out.1, by have := HFO.out.hi0; have := HMB.out; omega, HFO.out.low, .inr (by unfold Fits; omega)⟩)
            clear hP HFO HL HL1
            go_wp2_with fail
            go_roundw
            case rel => exact ⟨lo, md, rfl, rfl, HF.out, HL2.out⟩
            case measure => have := HMB.out; have := HIN.out; simp [intOf]; omega
        · have hgo' : ¬ (1 < hi - lo) := hgo
          obtain rfl : hi = lo + 1 := by omega
          have HMD := Lib.hid (show 0 ≤ lo ∧ lo ≤ 100000 by omega)
          have HMD1 := Lib.hid (show 0 ≤ lo + 1 ∧ lo + 1 ≤ 100000 by omega)
          have hlo1 : wrap64 (lo + 1) = lo + 1 := by unfold wrap64; omega
          have hone : lo + 1 - lo = 1 := by omega
          rw [hone] at hsub
          clear b1 b2 b3 hgo hgo'
          obtain ⟨k0, hk0⟩ : ∃ k, atTo s c sl lo b = k := ⟨_, rfl⟩
          obtain ⟨k1, hk1⟩ : ∃ k, atTo s c sl (lo + 1) b = k := ⟨_, rfl⟩
          have HK0 := Lib.hid hk0
          have HK1 := Lib.hid hk1
          clear hk0 hk1
          go_upto_region 13 with fail
          go_upto_region 14 with (first | (go_at_call 77; refine (hat.out _ lo HMD.out _ HL.out.job).mono ?_; rintro e wn ⟨rfl, hbb⟩; rw [HK0.out]; have HL1 := Lib.hid (HL.out.keep hbb); clear hbb HL) | (go_at_call 77; refine (hat.out _ (lo + 1) HMD1.out _ HL1.out.job).mono ?_; rintro e wq ⟨rfl, hbb⟩; rw [HK1.out]; have HL2 := Lib.hid (HL1.out.keep hbb); clear hbb HL1) | (refine wpList_store_mid rfl A5 _ _ rfl wq.heap.size 0 (ag i64s 5 k0) rfl rfl ?hth ?hin ?hon ?_; (case hth => exact there_row (alloc_two _ _ _) _ (by rw [ag_size]; exact Nat.le_refl _)); (case hin => exact info5_ag _); (case hon => exact ag_one i64s 5 _)) | (refine wpList_store_mid rfl A5 _ _ rfl (wq.heap.size + 1) 0 (ag i64s 5 k1) rfl rfl ?hth2 ?hin2 ?hon2 ?_; (case hth2 => exact there_row (((only_setCells _ _ _ _).block _ (by omega)).trans (alloc_secondOf _ _ _)) _ (by rw [ag_size]; exact Nat.le_refl _)); (case hin2 => exact info5_ag _); (case hon2 => exact ag_one i64s 5 _)))
          refine cut_world (fun W => JK w B hb sh wq.heap.size (wq.heap.size + 1) s c sl k0 k1 W) (jk_new HL2.out k0 k1) ?_
          clear HL2
          intro V6 hV6
          obtain ⟨xb, hxb⟩ : ∃ xb, wq.heap.size + 1 = xb := ⟨_, rfl⟩
          rw [hxb] at hV6
          simp only [hxb]
          clear hxb
          generalize wq.heap.size = kb at *
          have HV6 := Lib.hid hV6
          have hm0 := hV6.js.m0
          have hm1 := hV6.js.m1
          clear hV6
          go_wp2_with (go_at_call 53; refine (hbn.out _).mono ?_; rintro e wr2 ⟨rfl, hbb⟩; have HV7 := Lib.hid (HV6.out.keep hbb); clear hbb)
          clear hm0 hm1 HV6
          go_loopw [16, 17, 66] (fun v16 v17 cnt wr => ∃ (bb : Nat) (k : Nat → Int), bb ≤ b ∧ cnt = .int .i64 bb ∧ JK w B hb sh kb xb s c sl k k1 wr ∧ finF s c bud b k1 (b - bb) bb k = finF s c bud b k1 b 0 k0) (fun _ _ cnt _ => b - (intOf cnt).toNat)
          case atStart => exact ⟨0, k0, by omega, rfl, HV7.out, rfl⟩
          case round =>
            clear HV7
            obtain ⟨bb, k, hbb, rfl, hL, hfin⟩ := hrel
            have HL := Lib.hid hL
            have HFI := Lib.hid hfin
            have hb0 : (0 : Int) ≤ bb := by omega
            clear hL hfin
            by_cases hlt : bb < b
            · have hlt' : (bb : Int) < b := by omega
              have hb5 : (bb : Int) < 5 := by omega
              go_upto_region 17 with fail
              clear hlt'
              go_upto_region 18 with (first | ((with_reducible refine gate_load A5 _ rfl ?_); refine load_row_g rfl A5 _ rfl kb rfl _ (ag i64s 5 k) (0, 0) _ HL.out.kk Tryd.underlying55 rfl ?hin ?_; (case hin => exact info5_ag _)) | (refine wpList_store_mid rfl A5 _ _ rfl wr.heap.size 0 (ag i64s 5 k) rfl rfl ?hth ?hin3 ?hon ?_; (case hth => exact there_row (alloc_at _ _) _ (by rw [ag_size]; exact Nat.le_refl _)); (case hin3 => exact info5_ag _); (case hon => exact ag_one i64s 5 _)))
              obtain ⟨q1, q2⟩ := k5_new wr k
              have hxs := HL.out.size
              refine cut_world (fun W => JK w B hb sh kb xb s c sl k k1 W ∧ Bx wr.heap.size A5 i64s 5 k W) ⟨HL.out.keep q1, q2⟩ ?_
              clear q1 q2 HL
              generalize wr.heap.size = mb at *
              rintro V7 ⟨hV7, hM7⟩
              have HV7 := Lib.hid hV7
              have HM7 := Lib.hid hM7
              have rn := ag_cell hV7.xx bb (by omega)
              have rm := ag_cell hM7 bb (by omega)
              have fm := (block_facts hM7).2.1 bb
              clear hV7 hM7
              go_upto_region 19 with fail
              obtain ⟨mo, hmo⟩ : ∃ mo, updI k bb (k1 bb) = mo := ⟨_, rfl⟩
              have HMO := Lib.hid hmo
              refine cut_world (fun W => JK w B hb sh kb xb s c sl k k1 W ∧ Bx mb A5 i64s 5 mo W) ⟨HV7.out.other (only_setCell _ ⟨mb, bb, none⟩ _) hxs, by rw [← hmo]; exact ag_store HM7.out bb (by omega) (k1 bb)⟩ ?_
              clear HV7 HM7 rn rm fm hmo
              rintro V8 ⟨hV8, hM8⟩
              have HL3 := Lib.hid hV8
              have HM3 := Lib.hid hM8
              clear hV8 hM8
              have hstep : finF s c bud b k1 (b - bb) bb k = if ¬ k1 bb = k bb ∧ bud < sumK s c mo b * c then k else finF s c bud b k1 (b - (bb + 1)) (bb + 1) mo := by
                rw [show b - bb = (b - (bb + 1)) + 1 from by omega, finF, HMO.out]
              by_cases hne : k1 bb = k bb
              · have heq := fun w => eq5_yes mo k (fun j hj => by rw [← HMO.out]; unfold updI; split; (rename_i e; rw [e, hne]); rfl) w
                rw [if_neg (by intro h; exact h.1 hne)] at hstep
                have HFN := Lib.hid (hstep.symm.trans HFI.out)
                clear hstep hne
                go_upto_region 20 with (first | ((with_reducible refine gate_load A5 _ rfl ?_); first | (refine load_row_g rfl A5 _ rfl kb rfl _ (ag i64s 5 k) (0, 0) _ HL3.out.kk Tryd.underlying55 rfl ?hin ?_; (case hin => exact info5_ag _)) | (refine load_row_g rfl A5 _ rfl mb rfl _ (ag i64s 5 mo) (0, 0) _ HM3.out Tryd.underlying55 rfl ?hin ?_; (case hin => exact info5_ag _)) | (refine load_row_g rfl A5 _ rfl mb rfl _ (ag i64s 5 mo) (0, 0) _ HM4.out Tryd.underlying55 rfl ?hin ?_; (case hin => exact info5_ag _))) | (go_at_call 76; refine (htt.out _ _ _ HL3.out.js.job).mono ?_; rintro e wq ⟨rfl, hbq⟩; have HL4 := Lib.hid (HL3.out.keep hbq); have HM4 := Lib.hid (HM3.out.keep hbq); clear hbq HL3 HM3))
                clear heq
                go_upto_region 21 with (first | ((with_reducible refine gate_load A5 _ rfl ?_); refine load_row_g rfl A5 _ rfl mb rfl _ (ag i64s 5 mo) (0, 0) _ HM3.out Tryd.underlying55 rfl ?hin ?_; (case hin => exact info5_ag _)) | (refine wpList_store_mid rfl A5 _ _ rfl kb 0 (ag i64s 5 mo) rfl rfl ?hth ?hin3 ?hon ?_; (case hth => exact there_row HL3.out.kk _ (by rw [ag_size, ag_size]; exact Nat.le_refl _)); (case hin3 => exact info5_ag _); (case hon => exact ag_one i64s 5 _)))
                refine cut_world (fun W => JK w B hb sh kb xb s c sl mo k1 W) (HL3.out.onlyK (only_setCells _ _ _ _) (cells_all HL3.out.kk (N := 5) (ag_size _ _ _) (ag_size _ _ _))) ?_
                clear HL3 HM3
                intro V9 hV9
                have HV9 := Lib.hid hV9
                clear hV9
                go_wp2_with fail
                go_roundw
                case rel => exact ⟨bb + 1, mo, by omega, rfl, HV9.out, HFN.out⟩
                case measure => simp [intOf]; omega
              · have heq := fun w => eq5_no mo k bb (by omega) (by rw [← HMO.out]; unfold updI; rw [if_pos rfl]; exact hne) w
                by_cases hov : bud < sumK s c mo b * c
                · rw [if_pos ⟨hne, hov⟩] at hstep
                  have HRES := Lib.hid ((hstep.symm.trans HFI.out).symm)
                  clear hstep hne
                  go_upto_region 22 with (first | ((with_reducible refine gate_load A5 _ rfl ?_); first | (refine load_row_g rfl A5 _ rfl kb rfl _ (ag i64s 5 k) (0, 0) _ HL3.out.kk Tryd.underlying55 rfl ?hin ?_; (case hin => exact info5_ag _)) | (refine load_row_g rfl A5 _ rfl mb rfl _ (ag i64s 5 mo) (0, 0) _ HM3.out Tryd.underlying55 rfl ?hin ?_; (case hin => exact info5_ag _)) | (refine load_row_g rfl A5 _ rfl mb rfl _ (ag i64s 5 mo) (0, 0) _ HM4.out Tryd.underlying55 rfl ?hin ?_; (case hin => exact info5_ag _))) | (go_at_call 76; refine (htt.out _ _ _ HL3.out.js.job).mono ?_; rintro e wq ⟨rfl, hbq⟩; have HL4 := Lib.hid (HL3.out.keep hbq); have HM4 := Lib.hid (HM3.out.keep hbq); clear hbq HL3 HM3))
                  clear heq hov
                  go_wp2_with (first | ((with_reducible refine gate_load A5 _ rfl ?_); refine load_row_g rfl A5 _ rfl kb rfl _ (ag i64s 5 k) (0, 0) _ HL4.out.kk Tryd.underlying55 rfl ?hin ?_; (case hin => exact info5_ag _)) | (refine wpList_store_mid rfl A5 _ _ rfl (B + 1) 0 (ag i64s 5 k) rfl rfl ?hth ?hin3 ?hon ?_; (case hth => exact there_row HL4.out.js.rb _ (by rw [ag_size, ag_size]; exact Nat.le_refl _)); (case hin3 => exact info5_ag _); (case hon => exact ag_one i64s 5 _)))
                  have q1 := cells_all HL4.out.js.rb (N := 5) (ag_size _ _ _) (cs := ag i64s 5 k) (ag_size _ _ _)
                  have hfinb := (only_setCells _ (B + 1) 0 (ag i64s 5 k).toList).below HL4.out.js.below (by omega)
                  refine bodyPost_ret (v := .agg (ag i64s 5 k)) ?_ rfl ⟨lo, by rw [HSL.out]; exact HFO.out, ?_, by rw [HBd.out]; exact hfinb⟩
                  · exact results_cell_row rfl _ _ (B + 1) _ _ _ _ rfl q1 Tryd.underlying55 rfl (info5_ag _)
                  · rw [HSL.out, HK0.out, HK1.out, HRES.out]
                · rw [if_neg (by intro h; exact hov h.2)] at hstep
                  have HFN := Lib.hid (hstep.symm.trans HFI.out)
                  clear hstep hne
                  go_upto_region 20 with (first | ((with_reducible refine gate_load A5 _ rfl ?_); first | (refine load_row_g rfl A5 _ rfl kb rfl _ (ag i64s 5 k) (0, 0) _ HL3.out.kk Tryd.underlying55 rfl ?hin ?_; (case hin => exact info5_ag _)) | (refine load_row_g rfl A5 _ rfl mb rfl _ (ag i64s 5 mo) (0, 0) _ HM3.out Tryd.underlying55 rfl ?hin ?_; (case hin => exact info5_ag _)) | (refine load_row_g rfl A5 _ rfl mb rfl _ (ag i64s 5 mo) (0, 0) _ HM4.out Tryd.underlying55 rfl ?hin ?_; (case hin => exact info5_ag _))) | (go_at_call 76; refine (htt.out _ _ _ HL3.out.js.job).mono ?_; rintro e wq ⟨rfl, hbq⟩; have HL4 := Lib.hid (HL3.out.keep hbq); have HM4 := Lib.hid (HM3.out.keep hbq); clear hbq HL3 HM3))
                  clear heq hov
                  go_upto_region 21 with (first | ((with_reducible refine gate_load A5 _ rfl ?_); refine load_row_g rfl A5 _ rfl mb rfl _ (ag i64s 5 mo) (0, 0) _ HM4.out Tryd.underlying55 rfl ?hin ?_; (case hin => exact info5_ag _)) | (refine wpList_store_mid rfl A5 _ _ rfl kb 0 (ag i64s 5 mo) rfl rfl ?hth ?hin3 ?hon ?_; (case hth => exact there_row HL4.out.kk _ (by rw [ag_size, ag_size]; exact Nat.le_refl _)); (case hin3 => exact info5_ag _); (case hon => exact ag_one i64s 5 _)))
                  refine cut_world (fun W => JK w B hb sh kb xb s c sl mo k1 W) (HL4.out.onlyK (only_setCells _ _ _ _) (cells_all HL4.out.kk (N := 5) (ag_size _ _ _) (ag_size _ _ _))) ?_
                  clear HL4 HM4
                  intro V9 hV9
                  have HV9 := Lib.hid hV9
                  clear hV9
                  go_wp2_with fail
                  go_roundw
                  case rel => exact ⟨bb + 1, mo, by omega, rfl, HV9.out, HFN.out⟩
                  case measure => simp [intOf]; omega
            · have hlt' : ¬ (bb : Int) < b := by omega
              obtain rfl : bb = b := by omega
              have HRES := Lib.hid (show finF s c bud bb k1 bb 0 k0 = k by have := HFI.out; rw [Nat.sub_self] at this; exact this.symm)
              clear hlt
              go_upto_region 22 with fail
              clear hlt'
              go_wp2_with (first | ((with_reducible refine gate_load A5 _ rfl ?_); refine load_row_g rfl A5 _ rfl kb rfl _ (ag i64s 5 k) (0, 0) _ HL.out.kk Tryd.underlying55 rfl ?hin ?_; (case hin => exact info5_ag _)) | (refine wpList_store_mid rfl A5 _ _ rfl (B + 1) 0 (ag i64s 5 k) rfl rfl ?hth ?hin3 ?hon ?_; (case hth => exact there_row HL.out.js.rb _ (by rw [ag_size, ag_size]; exact Nat.le_refl _)); (case hin3 => exact info5_ag _); (case hon => exact ag_one i64s 5 _)))
              have q1 := cells_all HL.out.js.rb (N := 5) (ag_size _ _ _) (cs := ag i64s 5 k) (ag_size _ _ _)
              have hfinb := (only_setCells _ (B + 1) 0 (ag i64s 5 k).toList).below HL.out.js.below (by omega)
              refine bodyPost_ret (v := .agg (ag i64s 5 k)) ?_ rfl ⟨lo, by rw [HSL.out]; exact HFO.out, ?_, by rw [HBd.out]; exact hfinb⟩
              · exact results_cell_row rfl _ _ (B + 1) _ _ _ _ rfl q1 Tryd.underlying55 rfl (info5_ag _)
              · rw [HSL.out, HK0.out, HK1.out, HRES.out]
end Go.Proofs.YtcibajleknhklaaDoor
end

section
namespace Go.Proofs.YtcibajleknhklaaDoor
open Go.RowKit Go.Vec Go.Cost
set_option linter.unusedSimpArgs false
set_option linter.unusedVariables false
/-- Fuel that is left ahead of a level and a band. -/
def FL (nb L b : Nat) : Nat := (3000 - L) * (nb + 1) + (nb - b) + 1
theorem run_skip {t bud c : Int} {nb L b : Nat} {l : List Int} {s : Int} (hb : b < nb) (h : ¬(l.getD b 0 < capF (widL.getD b 0) ∧ lev t b l = L)) : runI t bud c nb (FL nb L b) L b l s = runI t bud c nb (FL nb L (b + 1)) L (b + 1) l s := by
  have e : FL nb L b = FL nb L (b + 1) + 1 := by unfold FL; omega
  rw [e]
  simp only [runI]
  rw [if_pos hb, if_neg h]
theorem run_stop {t bud c : Int} {nb L b : Nat} {l : List Int} {s : Int} (hb : b < nb) (h : l.getD b 0 < capF (widL.getD b 0) ∧ lev t b l = L) (hs : bud < s + more c b l) : runI t bud c nb (FL nb L b) L b l s = l := by
  have e : FL nb L b = FL nb L (b + 1) + 1 := by unfold FL; omega
  rw [e]
  simp only [runI]
  rw [if_pos hb, if_pos h, if_pos hs]
theorem run_go {t bud c : Int} {nb L b : Nat} {l : List Int} {s : Int} (hb : b < nb) (h : l.getD b 0 < capF (widL.getD b 0) ∧ lev t b l = L) (hs : ¬bud < s + more c b l) : runI t bud c nb (FL nb L b) L b l s = runI t bud c nb (FL nb L (b + 1)) L (b + 1) (inc b l) (s + more c b l) := by
  have e : FL nb L b = FL nb L (b + 1) + 1 := by unfold FL; omega
  rw [e]
  simp only [runI]
  rw [if_pos hb, if_pos h, if_neg hs]
theorem run_next {t bud c : Int} {nb L : Nat} {l : List Int} {s : Int} (hL : L < 3000) : runI t bud c nb (FL nb L nb) L nb l s = runI t bud c nb (FL nb (L + 1) 0) ((L + 1 : Nat) : Int) 0 l s := by
  have e : FL nb L nb = FL nb (L + 1) 0 + 1 := by
    unfold FL
    obtain ⟨d, hd⟩ : ∃ d, 3000 - L = d + 1 := ⟨3000 - L - 1, by omega⟩
    rw [show 3000 - (L + 1) = d by omega, hd, Nat.add_mul]
    omega
  rw [e]
  simp only [runI]
  rw [if_neg (by omega), if_pos (by omega)]
  rfl
theorem run_start {s c : Int} (hR : RightP s c) (t bud : Int) (nb : Nat) (hnb : bandsF s c = nb) : runI t bud c nb (FL nb 1 0) ((1 : Nat) : Int) 0 [0, 0, 0, 0, 0] 0 = allocF s c t bud := by
  have hbd := bandsF_bd s c
  have h := run_eq hR t bud nb hnb (FL nb 1 0) 161 1 0 [0, 0, 0, 0, 0] (by omega) (by omega) (by omega) ?_ (fit_zero s c) ?_ (by simp [sum5])
  · rw [total_zero s c hR] at h
    exact h
  · unfold FL
    have e : ((3000 : Int) - 1).toNat = 2999 := rfl
    rw [e]
    omega
  · intro j hj hcj
    have hj5 : j < 5 := by omega
    have hp := slopeR_pos t j hj5
    have e : ([0, 0, 0, 0, 0] : List Int).getD j 0 = 0 := by
      have : j = 0 ∨ j = 1 ∨ j = 2 ∨ j = 3 ∨ j = 4 := by omega
      rcases this with rfl | rfl | rfl | rfl | rfl <;> rfl
    have e1 : lev t j [0, 0, 0, 0, 0] = slopeR t j := by unfold lev; rw [e]; omega
    rw [e1]
    by_cases e2 : slopeR t j = 1
    · exact .inr ⟨e2, by omega⟩
    · exact .inl (by omega)
/-- Five numbers as a list. -/
def L5 (f : Nat → Int) : List Int := [f 0, f 1, f 2, f 3, f 4]
theorem L5_at (f : Nat → Int) (j : Nat) (hj : j < 5) : (L5 f).getD j 0 = f j := by
  rcases (show j = 0 ∨ j = 1 ∨ j = 2 ∨ j = 3 ∨ j = 4 by omega) with h | h | h | h | h <;> subst h <;> rfl
theorem L5_ext (f g : Nat → Int) (h : ∀ j, j < 5 → f j = g j) : L5 f = L5 g := by
  unfold L5; rw [h 0 (by omega), h 1 (by omega), h 2 (by omega), h 3 (by omega), h 4 (by omega)]
theorem L5_inc (f : Nat → Int) (b : Nat) (hb : b < 5) : inc b (L5 f) = L5 (updI f b (f b + 1)) := by
  unfold inc
  rw [L5_at f b hb]
  rcases (show b = 0 ∨ b = 1 ∨ b = 2 ∨ b = 3 ∨ b = 4 by omega) with h | h | h | h | h <;> subst h <;> rfl
theorem ag_L5 (f : Nat → Int) : Value.agg (ag i64s 5 f) = aggOf (L5 f) := rfl
theorem sumK_ext (s c : Int) (f g : Nat → Int) : ∀ n : Nat, (∀ j, j < n → f j = g j) → sumK s c f n = sumK s c g n
  | 0, _ => rfl
  | n + 1, h => by rw [sumK, sumK, sumK_ext s c f g n (fun j hj => h j (by omega)), h n (by omega)]
theorem sumK_upd (s c : Int) (k : Nat → Int) (b : Nat) (x : Int) : ∀ n : Nat, b < n → sumK s c (updI k b x) n = sumK s c k n + bitsF (widthF s c b) x - bitsF (widthF s c b) (k b)
  | 0, h => absurd h (by omega)
  | n + 1, h => by
    rw [sumK, sumK]
    by_cases e : b = n
    · subst e
      rw [sumK_ext s c (updI k b x) k b (fun j hj => by unfold updI; rw [if_neg (by omega)])]
      unfold updI
      rw [if_pos rfl]
      omega
    · rw [sumK_upd s c k b x n (by omega)]
      have : updI k b x n = k n := by unfold updI; rw [if_neg (by omega)]
      rw [this]
      omega
theorem bits_up : ∀ i : Fin 5, ∀ a : Fin 33, (a.val : Int) < capF (widL.getD i.val 0) → bitsF (widL.getD i.val 0) (a.val : Int) ≤ bitsF (widL.getD i.val 0) ((a.val : Int) + 1) := by decide +kernel
theorem bits_upI (b : Nat) (hb : b < 5) (a : Int) (h0 : 0 ≤ a) (h : a < capF (widL.getD b 0)) : bitsF (widL.getD b 0) a ≤ bitsF (widL.getD b 0) (a + 1) := by
  have h32 := (capF_bd (widL.getD b 0)).2
  have := bits_up ⟨b, hb⟩ ⟨a.toNat, by omega⟩
  simp only [Int.toNat_of_nonneg h0] at this
  exact this h
/-- One level on: a band gets one pulse more just if its next level is this one. -/
theorem at_step (L q cp : Int) (hq : 1 ≤ q) (hL : 1 ≤ L) : (min ((L - 1) / q) cp < cp ∧ (min ((L - 1) / q) cp + 1) * q = L → min (L / q) cp = min ((L - 1) / q) cp + 1) ∧
    (¬ (min ((L - 1) / q) cp < cp ∧ (min ((L - 1) / q) cp + 1) * q = L) → min (L / q) cp = min ((L - 1) / q) cp) := by
  have a1 : (L - 1) / q * q ≤ L - 1 := Int.ediv_mul_le _ (by omega)
  have a2 : L - 1 < ((L - 1) / q + 1) * q := Int.lt_ediv_add_one_mul_self _ (by omega)
  have b1 : L / q * q ≤ L := Int.ediv_mul_le _ (by omega)
  have b2 : L < (L / q + 1) * q := Int.lt_ediv_add_one_mul_self _ (by omega)
  have c1 : (L - 1) / q ≤ L / q := Int.ediv_le_ediv (by omega) (by omega)
  generalize (L - 1) / q = d at *
  generalize L / q = e at *
  rw [Int.add_mul, Int.one_mul] at a2 b2
  have c2 : e ≤ d + 1 := by
    by_cases h : e ≤ d + 1
    · exact h
    · have : (d + 2) * q ≤ e * q := Int.mul_le_mul_of_nonneg_right (by omega) (by omega)
      rw [Int.add_mul] at this
      omega
  constructor
  · rintro ⟨h1, h2⟩
    have hm : min d cp = d := by omega
    rw [hm, Int.add_mul, Int.one_mul] at h2
    have : e = d + 1 := by
      by_cases h : e = d
      · subst h; omega
      · omega
    omega
  · intro h
    by_cases h1 : d < cp
    · have hm : min d cp = d := by omega
      rw [hm] at h
      have h2 : ¬ (d + 1) * q = L := fun h3 => h ⟨h1, h3⟩
      rw [Int.add_mul, Int.one_mul] at h2
      have : e = d := by
        by_cases h3 : e = d + 1
        · subst h3
          rw [Int.add_mul, Int.one_mul] at b1
          omega
        · omega
      omega
    · omega
theorem run_over {t bud c : Int} {nb : Nat} (hnb : nb ≤ 5) (hc : 1 ≤ c) {l : List Int} (hl : ∀ j, j < 5 → 0 ≤ l.getD j 0) : ∀ (F : Nat) (lv : Int) (b : Nat) (s : Int), bud < s → runI t bud c nb F lv b l s = l
  | 0, _, _, _, _ => rfl
  | F + 1, lv, b, s, hs => by
    simp only [runI]
    by_cases hb : b < nb
    · rw [if_pos hb]
      by_cases hf : l.getD b 0 < capF (widL.getD b 0) ∧ lev t b l = lv
      · have h1 := bits_upI b (by omega) (l.getD b 0) (hl b (by omega)) hf.1
        have hm : 0 ≤ more c b l := Int.mul_nonneg (by omega) (by omega)
        rw [if_pos hf, if_pos (by omega)]
      · rw [if_neg hf]
        exact run_over hnb hc hl F lv (b + 1) s hs
    · rw [if_neg hb]
      by_cases h3 : lv < 3000
      · rw [if_pos h3]
        exact run_over hnb hc hl F (lv + 1) 0 s hs
      · rw [if_neg h3]
theorem run_full {t bud c : Int} {nb : Nat} {l : List Int} (hl : ∀ j, j < nb → capF (widL.getD j 0) ≤ l.getD j 0) : ∀ (F : Nat) (lv : Int) (b : Nat) (s : Int), runI t bud c nb F lv b l s = l
  | 0, _, _, _ => rfl
  | F + 1, lv, b, s => by
    simp only [runI]
    by_cases hb : b < nb
    · have := hl b hb
      rw [if_pos hb, if_neg (by omega)]
      exact run_full hl F lv (b + 1) s
    · rw [if_neg hb]
      by_cases h3 : lv < 3000
      · rw [if_pos h3]
        exact run_full hl F (lv + 1) 0 s
      · rw [if_neg h3]
section
variable {s c t bud : Int} {nb : Nat} (hR : RightP s c) (hnb : bandsF s c = nb)
/-- Midway through a level. -/
def mid (s c t : Int) (nb L b : Nat) : Nat → Int := fun j => if j < b then atTo s c (slTo s c t nb) (L : Int) nb j else atTo s c (slTo s c t nb) ((L : Int) - 1) nb j
theorem mid_succ (L b : Nat) : mid s c t nb L (b + 1) = updI (mid s c t nb L b) b (atTo s c (slTo s c t nb) (L : Int) nb b) := by
  funext j
  unfold updI mid
  by_cases e : j = b
  · rw [if_pos e, if_pos (by omega), e]
  · rw [if_neg e]
    by_cases e2 : j < b
    · rw [if_pos e2, if_pos (by omega)]
    · rw [if_neg e2, if_neg (by omega)]
theorem mid_all (L j : Nat) (hj : j < 5) : mid s c t nb L nb j = atTo s c (slTo s c t nb) (L : Int) nb j := by
  unfold mid
  by_cases h : j < nb
  · rw [if_pos h]
  · rw [if_neg h]
    unfold atTo
    rw [if_neg h, if_neg h]
include hnb in
theorem at_val (lv : Int) (b : Nat) (hb : b < nb) : atTo s c (slTo s c t nb) lv nb b = min (lv / slopeR t b) (capF (widL.getD b 0)) := by
  have hB : (b : Int) < bandsF s c := by omega
  unfold atTo atF slTo
  rw [if_pos hb, if_pos hb, width_in hB, slopeR_eq s c t b hB]
include hnb in
/-- What a band's turn comes to. -/
theorem mid_step (L b : Nat) (hL : 1 ≤ L) (hb : b < nb) :
    (mid s c t nb L b b < capF (widL.getD b 0) ∧ (mid s c t nb L b b + 1) * slopeR t b = L → atTo s c (slTo s c t nb) (L : Int) nb b = mid s c t nb L b b + 1) ∧
    (¬ (mid s c t nb L b b < capF (widL.getD b 0) ∧ (mid s c t nb L b b + 1) * slopeR t b = L) → atTo s c (slTo s c t nb) (L : Int) nb b = mid s c t nb L b b) ∧ 0 ≤ mid s c t nb L b b := by
  have h5 := bandsF_bd s c
  have hq := slopeR_pos t b (by omega)
  have hm : mid s c t nb L b b = min (((L : Int) - 1) / slopeR t b) (capF (widL.getD b 0)) := by
    unfold mid
    rw [if_neg (by omega), at_val hnb _ b hb]
  have hw := capF_w s c b nb hnb hb
  rw [width_in (show (b : Int) < bandsF s c by omega)] at hw
  rw [hm, at_val hnb _ b hb]
  have h := at_step L (slopeR t b) (capF (widL.getD b 0)) hq.1 (by omega)
  refine ⟨h.1, h.2, ?_⟩
  have : 0 ≤ ((L : Int) - 1) / slopeR t b := Int.ediv_nonneg (by omega) (by omega)
  omega
include hR hnb in
theorem mid_sum (L b : Nat) (hL : 1 ≤ L) (hb : b < nb) (hf : mid s c t nb L b b < capF (widL.getD b 0) ∧ (mid s c t nb L b b + 1) * slopeR t b = L) :
    sumK s c (mid s c t nb L (b + 1)) nb * c = sumK s c (mid s c t nb L b) nb * c + more c b (L5 (mid s c t nb L b)) ∧ 0 ≤ more c b (L5 (mid s c t nb L b)) := by
  have h5 := bandsF_bd s c
  obtain ⟨h1, h2, h3⟩ := mid_step (t := t) hnb L b hL hb
  have hw : widthF s c b = widL.getD b 0 := width_in (by omega)
  rw [mid_succ, sumK_upd s c _ b _ nb hb, h1 hf, hw]
  have hm : more c b (L5 (mid s c t nb L b)) = c * (bitsF (widL.getD b 0) (mid s c t nb L b b + 1) - bitsF (widL.getD b 0) (mid s c t nb L b b)) := by
    unfold more
    rw [L5_at _ b (by omega)]
  have hup := bits_upI b (by omega) _ h3 hf.1
  have hc : 1 ≤ c ∧ c ≤ 2 := by unfold RightP at hR; omega
  rw [hm]
  refine ⟨?_, Int.mul_nonneg (by omega) (by omega)⟩
  rw [Int.mul_comm c, ← Int.add_mul]
  congr 1
  omega
include hnb in
theorem mid_same (L b : Nat) (hL : 1 ≤ L) (hb : b < nb) (hf : ¬ (mid s c t nb L b b < capF (widL.getD b 0) ∧ (mid s c t nb L b b + 1) * slopeR t b = L)) : mid s c t nb L (b + 1) = mid s c t nb L b := by
  obtain ⟨h1, h2, h3⟩ := mid_step (t := t) hnb L b hL hb
  rw [mid_succ, h2 hf]
  funext j
  unfold updI
  split
  · rename_i e; rw [e]
  · rfl
include hR hnb in
theorem mid_up (L : Nat) (hL : 1 ≤ L) : ∀ (d b : Nat), b + d = nb → sumK s c (mid s c t nb L b) nb * c ≤ sumK s c (mid s c t nb L nb) nb * c
  | 0, b, h => by rw [show b = nb from by omega]; exact Int.le_refl _
  | d + 1, b, h => by
    have ih := mid_up L hL d (b + 1) (by omega)
    by_cases hf : mid s c t nb L b b < capF (widL.getD b 0) ∧ (mid s c t nb L b b + 1) * slopeR t b = L
    · have := mid_sum (t := t) hR hnb L b hL (by omega) hf
      omega
    · rw [mid_same hnb L b hL (by omega) hf] at ih
      exact ih
theorem sum_all (L : Nat) (hn5 : nb ≤ 5) : sumK s c (mid s c t nb L nb) nb = sumK s c (atTo s c (slTo s c t nb) (L : Int) nb) nb := sumK_ext s c _ _ nb fun j hj => mid_all L j (by omega)
theorem sum_none (L : Nat) : mid s c t nb L 0 = atTo s c (slTo s c t nb) ((L : Int) - 1) nb := by
  funext j
  unfold mid
  rw [if_neg (by omega)]
include hnb in
theorem fire_iff (L b : Nat) (hb : b < nb) : ((L5 (mid s c t nb L b)).getD b 0 < capF (widL.getD b 0) ∧ lev t b (L5 (mid s c t nb L b)) = L) ↔ (mid s c t nb L b b < capF (widL.getD b 0) ∧ (mid s c t nb L b b + 1) * slopeR t b = L) := by
  have h5 := bandsF_bd s c
  unfold lev
  rw [L5_at _ b (by omega)]
include hR hnb in
/-- A level all of whose pulses fit. -/
theorem run_level (L : Nat) (hL : 1 ≤ L) (hfit : sumK s c (atTo s c (slTo s c t nb) (L : Int) nb) nb * c ≤ bud) : ∀ b, b ≤ nb →
    runI t bud c nb (FL nb L 0) L 0 (L5 (mid s c t nb L 0)) (sumK s c (mid s c t nb L 0) nb * c) = runI t bud c nb (FL nb L b) L b (L5 (mid s c t nb L b)) (sumK s c (mid s c t nb L b) nb * c)
  | 0, _ => rfl
  | b + 1, h => by
    have h5 := bandsF_bd s c
    rw [run_level L hL hfit b (by omega)]
    have hb : b < nb := by omega
    have hup := mid_up (t := t) hR hnb L hL (nb - (b + 1)) (b + 1) (by omega)
    rw [sum_all L (by omega)] at hup
    by_cases hf : mid s c t nb L b b < capF (widL.getD b 0) ∧ (mid s c t nb L b b + 1) * slopeR t b = L
    · obtain ⟨e1, e2⟩ := mid_sum (t := t) hR hnb L b hL hb hf
      rw [run_go hb ((fire_iff hnb L b hb).2 hf) (by omega), ← e1, L5_inc _ b (by omega), mid_succ, (mid_step hnb L b hL hb).1 hf]
    · rw [run_skip hb (fun h => hf ((fire_iff hnb L b hb).1 h)), mid_same hnb L b hL hb hf]
include hR hnb in
theorem run_up (L : Nat) (hL : 1 ≤ L) (hL3 : L < 3000) (hfit : sumK s c (atTo s c (slTo s c t nb) (L : Int) nb) nb * c ≤ bud) :
    runI t bud c nb (FL nb L 0) L 0 (L5 (atTo s c (slTo s c t nb) ((L : Int) - 1) nb)) (sumK s c (atTo s c (slTo s c t nb) ((L : Int) - 1) nb) nb * c) =
    runI t bud c nb (FL nb (L + 1) 0) ((L + 1 : Nat) : Int) 0 (L5 (atTo s c (slTo s c t nb) (L : Int) nb)) (sumK s c (atTo s c (slTo s c t nb) (L : Int) nb) nb * c) := by
  have h5 := bandsF_bd s c
  have h := run_level hR hnb L hL hfit nb (Nat.le_refl _)
  rw [sum_all L (by omega), sum_none, run_next hL3] at h
  rw [h, L5_ext _ _ (fun j hj => mid_all L j hj)]
include hR hnb in
theorem at_mono (L : Nat) (hL : 1 ≤ L) : sumK s c (atTo s c (slTo s c t nb) ((L : Int) - 1) nb) nb * c ≤ sumK s c (atTo s c (slTo s c t nb) (L : Int) nb) nb * c := by
  have h5 := bandsF_bd s c
  have h := mid_up (t := t) hR hnb L hL nb 0 (by omega)
  rwa [sum_all L (by omega), sum_none] at h
include hnb in
theorem at_zero (j : Nat) : atTo s c (slTo s c t nb) 0 nb j = 0 := by
  by_cases hj : j < nb
  · rw [at_val hnb 0 j hj, Int.zero_ediv]
    have hw := capF_w s c j nb hnb hj
    rw [width_in (show (j : Int) < bandsF s c by omega)] at hw
    omega
  · unfold atTo; rw [if_neg hj]
theorem sum_zero (s c : Int) (k : Nat → Int) (nb : Nat) (hnb : bandsF s c = nb) (hk : ∀ j, k j = 0) : ∀ n : Nat, n ≤ nb → sumK s c k n = 0
  | 0, _ => rfl
  | n + 1, h => by
    have hw := capF_w s c n nb hnb (by omega)
    have hb : bitsF (widthF s c n) 0 = 0 := by
      unfold bitsF
      rw [if_pos ⟨Int.le_refl 0, by omega⟩]
      rfl
    rw [sumK, sum_zero s c k nb hnb hk n (by omega), hk n, hb]
    rfl
include hR hnb in
/-- The levels up to one all of whose pulses fit. -/
theorem run_to (lo : Nat) (hlo : lo < 2999) (hfit : lo = 0 ∨ sumK s c (atTo s c (slTo s c t nb) (lo : Int) nb) nb * c ≤ bud) :
    allocF s c t bud = runI t bud c nb (FL nb (lo + 1) 0) ((lo + 1 : Nat) : Int) 0 (L5 (atTo s c (slTo s c t nb) (lo : Int) nb)) (sumK s c (atTo s c (slTo s c t nb) (lo : Int) nb) nb * c) := by
  rw [← run_start hR t bud nb hnb]
  induction lo with
  | zero =>
    have e0 : L5 (atTo s c (slTo s c t nb) ((0 : Nat) : Int) nb) = [0, 0, 0, 0, 0] := by
      unfold L5
      rw [show ((0 : Nat) : Int) = 0 from rfl, at_zero hnb, at_zero hnb, at_zero hnb, at_zero hnb, at_zero hnb]
    have hz : sumK s c (atTo s c (slTo s c t nb) ((0 : Nat) : Int) nb) nb = 0 := sum_zero s c _ nb hnb (fun j => at_zero hnb j) nb (Nat.le_refl _)
    rw [e0, hz, Int.zero_mul]
  | succ n ih =>
    have hf : sumK s c (atTo s c (slTo s c t nb) ((n + 1 : Nat) : Int) nb) nb * c ≤ bud := by
      rcases hfit with h | h
      · omega
      · exact h
    have hm := at_mono (t := t) hR hnb (n + 1) (by omega)
    have e1 : (((n + 1 : Nat) : Int) - 1) = (n : Int) := by omega
    rw [e1] at hm
    have h := run_up hR hnb (t := t) (bud := bud) (n + 1) (by omega) (by omega) hf
    rw [e1] at h
    rw [ih (by omega) (.inr (by omega)), h]
include hR hnb in
/-- The level that does not fit whole, band by band. -/
theorem run_fin (L : Nat) (hL : 1 ≤ L)
    (hE : (sumK s c (mid s c t nb L nb) nb * c ≤ bud ∨ mid s c t nb L nb = mid s c t nb L 0) → runI t bud c nb (FL nb L nb) L nb (L5 (mid s c t nb L nb)) (sumK s c (mid s c t nb L nb) nb * c) = L5 (mid s c t nb L nb)) :
    ∀ (d b : Nat), b + d = nb → (sumK s c (mid s c t nb L b) nb * c ≤ bud ∨ mid s c t nb L b = mid s c t nb L 0) →
    runI t bud c nb (FL nb L b) L b (L5 (mid s c t nb L b)) (sumK s c (mid s c t nb L b) nb * c) = L5 (finF s c bud nb (atTo s c (slTo s c t nb) (L : Int) nb) d b (mid s c t nb L b))
  | 0, b, h, hi => by
    obtain rfl : b = nb := by omega
    exact hE hi
  | d + 1, b, h, hi => by
    have h5 := bandsF_bd s c
    have hb : b < nb := by omega
    have hst := mid_step (t := t) hnb L b hL hb
    rw [finF]
    by_cases hf : mid s c t nb L b b < capF (widL.getD b 0) ∧ (mid s c t nb L b b + 1) * slopeR t b = L
    · obtain ⟨e1, e2⟩ := mid_sum (t := t) hR hnb L b hL hb hf
      have hne : ¬ atTo s c (slTo s c t nb) (L : Int) nb b = mid s c t nb L b b := by rw [hst.1 hf]; omega
      have e3 : sumK s c (updI (mid s c t nb L b) b (atTo s c (slTo s c t nb) (L : Int) nb b)) nb * c = sumK s c (mid s c t nb L b) nb * c + more c b (L5 (mid s c t nb L b)) := by rw [← mid_succ]; exact e1
      by_cases ho : bud < sumK s c (mid s c t nb L b) nb * c + more c b (L5 (mid s c t nb L b))
      · rw [run_stop hb ((fire_iff hnb L b hb).2 hf) ho, if_pos ⟨hne, by rw [e3]; exact ho⟩]
      · rw [run_go hb ((fire_iff hnb L b hb).2 hf) ho, if_neg (by rw [e3]; intro hh; exact ho hh.2), ← e1, L5_inc _ b (by omega), ← hst.1 hf, ← mid_succ]
        exact run_fin L hL hE d (b + 1) (by omega) (.inl (by omega))
    · have hsm := mid_same hnb L b hL hb hf
      rw [run_skip hb (fun h => hf ((fire_iff hnb L b hb).1 h)), if_neg (by rw [hst.2.1 hf]; intro hh; exact hh.1 rfl), ← mid_succ, hsm]
      have := run_fin L hL hE d (b + 1) (by omega) (by rw [hsm]; exact hi)
      rw [hsm] at this
      exact this
include hR hnb in
/-- What the search comes to is what layer 14 gives. -/
theorem found_alloc (lo : Int) (h : Found s c bud (slTo s c t nb) nb lo (lo + 1)) :
    L5 (finF s c bud nb (atTo s c (slTo s c t nb) (lo + 1) nb) nb 0 (atTo s c (slTo s c t nb) lo nb)) = allocF s c t bud := by
  have h5 := bandsF_bd s c
  have hc : 1 ≤ c ∧ c ≤ 2 := by unfold RightP at hR; omega
  have htb := topTo_bd s c (slTo s c t nb) nb hnb (slTo_in s c t nb hnb) nb (Nat.le_refl _)
  have h1 := h.lo0
  have h3 := h.hi0
  obtain ⟨n, rfl⟩ := Int.eq_ofNat_of_zero_le h1
  have hn : n < 2999 := by omega
  have hfit : n = 0 ∨ sumK s c (atTo s c (slTo s c t nb) (n : Int) nb) nb * c ≤ bud := by
    rcases h.low with h | h
    · left; omega
    · right; exact h
  rw [run_to hR hnb n hn hfit]
  have e1 : (((n + 1 : Nat) : Int) - 1) = (n : Int) := by omega
  have em : mid s c t nb (n + 1) 0 = atTo s c (slTo s c t nb) (n : Int) nb := by rw [sum_none, e1]
  have h0 : mid s c t nb (n + 1) 0 = mid s c t nb (n + 1) 0 := rfl
  have key := run_fin (t := t) (bud := bud) hR hnb (n + 1) (by omega) ?_ nb 0 (by omega) (.inr rfl)
  · rw [em] at key
    rw [key]
    rfl
  · intro hi
    rcases h.high with ht | hno
    · refine run_full (fun j hj => ?_) _ _ _ _
      rw [L5_at _ j (by omega), mid_all _ j (by omega), at_val hnb _ j hj]
      have hq := slopeR_pos t j (by omega)
      have hB : (j : Int) < bandsF s c := by omega
      have htj : slopeR t j * capF (widL.getD j 0) ≤ topTo s c (slTo s c t nb) nb := by
        have : ∀ m : Nat, j < m → m ≤ nb → slopeR t j * capF (widL.getD j 0) ≤ topTo s c (slTo s c t nb) m := by
          intro m
          induction m with
          | zero => intro h; omega
          | succ m ih =>
            intro h1 h2
            rw [topTo]
            by_cases e : j = m
            · subst e
              have : slTo s c t nb j * capF (widthF s c j) = slopeR t j * capF (widL.getD j 0) := by
                unfold slTo
                rw [if_pos hj, slopeR_eq s c t j hB, width_in hB]
              omega
            · have := ih (by omega) (by omega)
              omega
        exact this nb hj (Nat.le_refl _)
      have hle : capF (widL.getD j 0) ≤ ((n + 1 : Nat) : Int) / slopeR t j := by
        rw [Int.le_ediv_iff_mul_le (by omega), Int.mul_comm]
        omega
      omega
    · have hno' : ¬ sumK s c (atTo s c (slTo s c t nb) ((n + 1 : Nat) : Int) nb) nb * c ≤ bud := by
        unfold Fits at hno
        rwa [show ((n : Int) + 1) = ((n + 1 : Nat) : Int) from by omega] at hno
      have hs := sum_all (s := s) (c := c) (t := t) (nb := nb) (n + 1) (by omega)
      refine run_over (by omega) hc.1 (fun j hj => ?_) _ _ _ _ (by rw [hs]; omega)
      rw [L5_at _ j hj, mid_all _ j hj]
      by_cases hjn : j < nb
      · rw [at_val hnb _ j hjn]
        have hq := slopeR_pos t j (by omega)
        have hw := capF_w s c j nb hnb hjn
        rw [width_in (show (j : Int) < bandsF s c by omega)] at hw
        have : 0 ≤ ((n + 1 : Nat) : Int) / slopeR t j := Int.ediv_nonneg (by omega) (by omega)
        omega
      · unfold atTo; rw [if_neg hjn]; exact Int.le_refl 0
end
theorem allocF_not (s c t bud : Int) (hR : ¬ RightP s c) : allocF s c t bud = [0, 0, 0, 0, 0] := by
  have hb : bandsF s c = 0 := by unfold bandsF; rw [if_neg hR]
  have h : bestF s c t [0, 0, 0, 0, 0] < 0 := by
    have h1 := bestF_lt s c t [0, 0, 0, 0, 0]
    omega
  unfold allocF
  generalize hz : ([0, 0, 0, 0, 0] : List Int) = z at *
  show allocGo s c t bud (160 + 1) z = z
  generalize (160 : Nat) = f
  simp only [allocGo]
  rw [if_pos h]
/-- A share shares out as layer 14 does. -/
theorem shareAlloc (hb sh : Nat) (s c t bud : Int) (w : World) (h : ShareAt hb sh w) (hW : WidthW w) :
    Calls Tryd.prog 29 #[.pointer (some ⟨hb, 0, none⟩), .agg #[.int .i64 s, .int .i64 c], .int .i64 t, .int .i64 bud] w fun e w' => e = .returned (aggOf (allocF s c t bud)) ∧ Below w.heap.size w w' := by
  have h5 := bandsF_bd s c
  obtain ⟨nb, hnb⟩ := Int.eq_ofNat_of_zero_le h5.1
  refine (shAlloc hb sh s c t bud nb hnb w h hW).mono ?_
  rintro e w' ⟨lo, hF, rfl, hbw⟩
  refine ⟨?_, hbw⟩
  rw [ag_L5]
  by_cases hR : RightP s c
  · rw [found_alloc hR hnb lo hF]
  · have h0 : nb = 0 := by unfold bandsF at hnb; rw [if_neg hR] at hnb; omega
    subst h0
    rw [allocF_not s c t bud hR]
    have e : ∀ j, finF s c bud 0 (atTo s c (slTo s c t 0) (lo + 1) 0) 0 0 (atTo s c (slTo s c t 0) lo 0) j = 0 := fun j => by
      show atTo s c (slTo s c t 0) lo 0 j = 0
      unfold atTo
      rw [if_neg (by omega)]
    unfold L5
    rw [e, e, e, e, e]
end Go.Proofs.YtcibajleknhklaaDoor
end

section
namespace Go.Proofs.YtcibajleknhklaaDoor
open Go.RowKit Go.BigFrame Go.Vec Go.Cost
set_option linter.unusedSimpArgs false
set_option linter.unusedVariables false
theorem ShareAt.keep {hb sh : Nat} {w w' : World} (h : ShareAt hb sh w) (hb' : Below w.heap.size w w') : ShareAt hb sh w' :=
  ⟨(hb'.block _ (block_facts h.sha).2.2).trans h.sha, h.sheet.below (sheet_lt h.sheet) hb'⟩
theorem shareNew (sh : Nat) (w : World) (hS : SheetOK sh w) : Calls Tryd.prog 71 #[.pointer (some ⟨sh, 0, none⟩)] w fun e w' => ∃ hb, e = .returned (.pointer (some ⟨hb, 0, none⟩)) ∧ w.heap.size ≤ hb ∧ ShareAt hb sh w' ∧ Below w.heap.size w w' := by
  have HS := Lib.hid hS
  clear hS
  go_enter Tryd.func71, Tryd.ntmps71
  go_wp2_with fail
  go_ret
  exact ⟨w.heap.size, rfl, Nat.le_refl _, ⟨alloc_at _ _, HS.out.below (sheet_lt HS.out) (by (repeat' (first | (with_reducible exact Below.refl _ _) | (with_reducible assumption) | (with_reducible refine Below.alloc ?_ ?_ _) | (with_reducible refine below_grew ?_ ?_ _) | (with_reducible refine Below.setCell ?_ ?_ _) | (with_reducible refine Below.drew ?_) | (with_reducible refine below_drewN ?_ _) | omega | (simp; done) | (simp; omega))))⟩, by (repeat' (first | (with_reducible exact Below.refl _ _) | (with_reducible assumption) | (with_reducible refine Below.alloc ?_ ?_ _) | (with_reducible refine below_grew ?_ ?_ _) | (with_reducible refine Below.setCell ?_ ?_ _) | (with_reducible refine Below.drew ?_) | (with_reducible refine below_drewN ?_ _) | omega | (simp; done) | (simp; omega)))⟩
set_option maxHeartbeats 1000000 in
theorem fresh_any (w : World) : Calls Tryd.prog 28 #[] w fun e w' => ∃ hb sh, e = .returned (.pointer (some ⟨hb, 0, none⟩)) ∧ ShareAt hb sh w' ∧ Below w.heap.size w w' := by
  have ht := Lib.hid (fun w => tabNew w)
  have hs := Lib.hid (fun t w hT ht => sheetNew t w hT ht)
  have hn := Lib.hid (fun sh w hS => shareNew sh w hS)
  go_enter Tryd.func28, Tryd.ntmps28
  go_wp2_with fail
  refine (ht.out _).mono ?_
  rintro e w1 ⟨tb, rfl, htb, hT, hb1⟩
  have HT := Lib.hid hT
  have HB1 := Lib.hid hb1
  have hlt : tb < w1.heap.size := by obtain ⟨cs, h1, _⟩ := hT; exact (Array.getElem?_eq_some_iff.1 h1).1
  clear hT hb1
  go_wp2_with fail
  refine (hs.out tb w1 HT.out hlt).mono ?_
  rintro e w2 ⟨sb, rfl, hsb, hS, hb2⟩
  have HS := Lib.hid hS
  have HB2 := Lib.hid (HB1.out.trans (hb2.mono HB1.out.size))
  clear hS hb2
  go_wp2_with fail
  refine (hn.out sb w2 HS.out).mono ?_
  rintro e w3 ⟨hb, rfl, hhb, hA, hb3⟩
  have HA := Lib.hid hA
  have HB3 := Lib.hid (HB2.out.trans (hb3.mono HB2.out.size))
  clear hA hb3
  go_wp2_with fail
  go_ret
  exact ⟨hb, sb, rfl, HA.out, HB3.out⟩
end Go.Proofs.YtcibajleknhklaaDoor
end

section
namespace Go.Proofs.YtcibajleknhklaaDoor
open Go.RowKit Go.BigFrame Go.WideMaps Go.WideElems Go.ChangeMaps
set_option linter.unusedSimpArgs false
set_option linter.unusedVariables false
abbrev TI := 3
theorem laidOut : laidOutB Tryd.prog = true := by kernel_rfl
theorem cellsTI : Tryd.prog.cellsOf TI = 1 := by kernel_rfl
theorem cellsA5 : Tryd.prog.cellsOf A5 = 5 := by kernel_rfl
theorem arr5 : ArrKey Tryd.prog A5 TI 5 := ⟨Tryd.underlying55, by kernel_rfl, cellsTI, cellsA5⟩
theorem row5 : (A5 : TypeId) < Tryd.prog.types.size := of_decide_eq_true (by kernel_rfl)
theorem keyAt5 : Tryd.prog.keyTypeAt 2 A5 = true := by kernel_rfl
theorem law5 : KeyLaw Tryd.prog A5 := deep_law_laid (k := A5) laidOut (m := 2) (by omega) row5 keyAt5 (by rw [Tryd.underlying55])
theorem keyed5 : Go.Maps.Keyed Tryd.prog A5 := Go.Maps.Keyed.of_law law5
theorem zeroTI (u : World) : (zeroValue TI).run Tryd.prog u = .ok (.int .i64 0) u := by kernel_rfl
theorem sz_pos : ∃ m, Tryd.prog.types.size = m + 1 := ⟨Tryd.prog.types.size - 1, by
    have h := row5
    omega⟩
section
variable {P : Program} {k e : TypeId} {q : IntKind}
theorem keyOf_five (A : ArrKey P k e 5) (he : P.underlying e = some (.int q)) (hsz : ∃ m, P.types.size = m + 1) {a b c d f : Int} (wa : (Lit.int q a).wf = true) (wb : (Lit.int q b).wf = true) (wc : (Lit.int q c).wf = true) (wd : (Lit.int q d).wf = true) (wf : (Lit.int q f).wf = true) :
    keyOf P k (.agg #[.int q a, .int q b, .int q c, .int q d, .int q f]) = some (.string (keyBytes [.int q a, .int q b, .int q c, .int q d, .int q f])) := by
  have hkt := A.keyType hsz
  obtain ⟨m, hm⟩ := hsz
  unfold keyOf
  simp only [A.hu]
  rw [if_pos (by simp [hkt, Value.formed, A.hu, A.size]), hm]
  unfold Program.keyLits
  simp only [A.hu, Value.cells]
  rw [if_pos (by rw [A.size]; rfl), show List.range 5 = [0, 1, 2, 3, 4] from rfl, List.mapM_cons, List.mapM_cons, List.mapM_cons, List.mapM_cons, List.mapM_cons, List.mapM_nil]
  simp [A.one, Program.keyLits, he, wa, wb, wc, wd, wf]
theorem keyLits_one (he : P.underlying e = some (.int q)) (m : Nat) (x : Value) (y : List Lit) (h : P.keyLits (m + 1) e [x] = some y) : ∃ n, x = .int q n ∧ (Lit.int q n).wf = true := by
  unfold Program.keyLits at h
  rw [he] at h
  cases x <;> simp at h
  obtain ⟨⟨rfl, hw⟩, _⟩ := h
  exact ⟨_, rfl, hw⟩
theorem keyLits_one' (he : P.underlying e = some (.int q)) {m : Nat} (x : Value) (y : List Lit) (h : P.keyLits m e [x] = some y) : ∃ n, x = .int q n ∧ (Lit.int q n).wf = true := by
  cases m with
  | zero => simp [Program.keyLits] at h
  | succ m => exact keyLits_one he m x y h
theorem keyOf_five_inv (A : ArrKey P k e 5) (he : P.underlying e = some (.int q)) {key : Value} {kl : Lit} (h : keyOf P k key = some kl) :
    ∃ a b c d f : Int, key = .agg #[.int q a, .int q b, .int q c, .int q d, .int q f] ∧ (Lit.int q a).wf = true ∧ (Lit.int q b).wf = true ∧ (Lit.int q c).wf = true ∧ (Lit.int q d).wf = true ∧ (Lit.int q f).wf = true := by
  unfold keyOf at h
  simp only [A.hu] at h
  split at h
  · rename_i hf
    rw [Bool.and_eq_true] at hf
    obtain ⟨-, hf⟩ := hf
    unfold Value.formed at hf
    simp only [A.hu] at hf
    cases key with
    | agg cs =>
      simp only [Option.map_eq_some_iff] at h
      obtain ⟨ls, hls, -⟩ := h
      unfold Program.keyLits at hls
      simp only [A.hu, Value.cells] at hls
      split at hls
      · rename_i hl
        rw [A.size] at hl
        obtain ⟨l⟩ := cs
        match l, hl with
        | [x0, x1, x2, x3, x4], _ =>
          simp only [Option.map_eq_some_iff] at hls
          obtain ⟨xs, hx, -⟩ := hls
          rw [show List.range 5 = [0, 1, 2, 3, 4] from rfl, List.mapM_cons, List.mapM_cons, List.mapM_cons, List.mapM_cons, List.mapM_cons, List.mapM_nil] at hx
          simp only [bind, Option.bind_eq_some_iff, pure, Option.some.injEq, A.one] at hx
          obtain ⟨y0, g0, _, ⟨y1, g1, _, ⟨y2, g2, _, ⟨y3, g3, _, ⟨y4, g4, _⟩, _⟩, _⟩, _⟩, _⟩ := hx
          obtain ⟨n0, r0, w0⟩ := keyLits_one' he _ y0 (by simpa using g0)
          obtain ⟨n1, r1, w1⟩ := keyLits_one' he _ y1 (by simpa using g1)
          obtain ⟨n2, r2, w2⟩ := keyLits_one' he _ y2 (by simpa using g2)
          obtain ⟨n3, r3, w3⟩ := keyLits_one' he _ y3 (by simpa using g3)
          obtain ⟨n4, r4, w4⟩ := keyLits_one' he _ y4 (by simpa using g4)
          subst r0 r1 r2 r3 r4
          exact ⟨n0, n1, n2, n3, n4, rfl, w0, w1, w2, w3, w4⟩
      · cases hls
    | _ => simp at hf
  · cases h
end
def wf5 (f : Nat → Int) : Prop := ∀ j, j < 5 → (Lit.int .i64 (f j)).wf = true
def k5 (f : Nat → Int) : Lit := .string (keyBytes [.int .i64 (f 0), .int .i64 (f 1), .int .i64 (f 2), .int .i64 (f 3), .int .i64 (f 4)])
theorem key5 (f : Nat → Int) (hf : wf5 f) : keyOf Tryd.prog A5 (.agg (ag i64s 5 f)) = some (k5 f) :=
  keyOf_five arr5 Tryd.underlying3 sz_pos (hf 0 (by omega)) (hf 1 (by omega)) (hf 2 (by omega)) (hf 3 (by omega)) (hf 4 (by omega))
theorem key5_inv {key : Value} {kl : Lit} (h : keyOf Tryd.prog A5 key = some kl) : ∃ f : Nat → Int, key = .agg (ag i64s 5 f) ∧ wf5 f := by
  obtain ⟨a, b, c, d, f, rfl, wa, wb, wc, wd, wf⟩ := keyOf_five_inv arr5 Tryd.underlying3 h
  refine ⟨fun j => [a, b, c, d, f].getD j 0, rfl, fun j hj => ?_⟩
  rcases (show j = 0 ∨ j = 1 ∨ j = 2 ∨ j = 3 ∨ j = 4 by omega) with h | h | h | h | h <;> subst h <;> assumption
theorem key5_inj {f g : Nat → Int} (hf : wf5 f) (hg : wf5 g) (h : k5 f = k5 g) : ∀ j, j < 5 → f j = g j := by
  have h1 := key5 f hf
  have h2 := key5 g hg
  rw [← h] at h2
  have := law5.inj h1 h2
  simp only [Value.agg.injEq] at this
  intro j hj
  have e := congrArg (fun a : Array Value => a[j]?) this
  simp only [ag_get _ _ _ j hj, Option.some.injEq, Value.int.injEq, true_and] at e
  exact e
end Go.Proofs.YtcibajleknhklaaDoor
end

section
namespace Go.Proofs.YtcibajleknhklaaDoor
open Go.RowKit Go.BigFrame Go.WideMaps Go.WideElems Go.ChangeMaps
set_option linter.unusedSimpArgs false
set_option linter.unusedVariables false
abbrev TL := 66
/-- A log, as it reads. -/
abbrev LogAt (b n : Nat) (D : DataW Unit) (w : World) : Prop := w.ownsMap Tryd.prog A5 (plainElem Tryd.prog TI) b n D
/-- How often a key is there. -/
def cntD (D : DataW Unit) (k : Lit) : Int := match D.atKey k (.lit (.int .i64 0)) with
  | .lit (.int _ n) => n
  | _ => 0
def addD (D : DataW Unit) (f : Nat → Int) : DataW Unit := D.put (k5 f) (.lit (.int .i64 (wrap64 (cntD D (k5 f) + 1))))
def addTo (D : DataW Unit) (X : Nat → Nat → Int) : Nat → DataW Unit
  | 0 => D
  | n + 1 => addD (addTo D X n) (X n)
theorem underTL : Tryd.prog.underlying TL = some (.map A5 TI) := Tryd.underlying66
/-- Of what was there nothing has turned but the map; it is as it was, or has the entry. -/
structure ME (b : Nat) (o0 o1 : Obj) (V W : World) : Prop where
  gr : V.grownBy W (some b)
  st : W.heap[b]? = some o0 ∨ W.heap[b]? = some o1
structure MT (b : Nat) (o1 : Obj) (W W' : World) : Prop where
  gr : W.grownBy W' (some b)
  st : W'.heap[b]? = W.heap[b]? ∨ W'.heap[b]? = some o1
theorem ME.next {b o0 o1} {V W W' : World} (h : ME b o0 o1 V W) (ht : MT b o1 W W') : ME b o0 o1 V W' :=
  ⟨h.gr.andThen ht.gr (fun j hj => .inr (by rw [hj])), by
    rcases ht.st with h1 | h1
    · rw [h1]; exact h.st
    · exact .inr h1⟩
theorem MT.refl (b : Nat) (o1 : Obj) (W : World) : MT b o1 W W := ⟨⟨rfl, rfl, rfl, Nat.le_refl _, fun _ _ _ => rfl⟩, .inl rfl⟩
theorem set_grown {W : World} {b : Nat} {es0 : Array MapEntry} {c0 : Nat} (o : Obj) (hb : W.heap[b]? = some (.map es0 c0)) : W.grownBy (setBlock W b o) (some b) :=
  ⟨rfl, rfl, rfl, by simp [setBlock], fun i _ hi => heap_setBlock_other hb _ (fun e => hi (by rw [e]))⟩
theorem below_grown {w w' : World} (h : Below w.heap.size w w') (r : Option Nat) : w.grownBy w' r := ⟨h.os, h.tape, h.output, h.size, fun k hk _ => h.block k hk⟩
theorem wrap_wf (x : Int) : (Lit.int .i64 (wrap64 x)).wf = true := wrap64_wf x
set_option maxHeartbeats 4000000 in
set_option maxRecDepth 100000 in
theorem logAdd (b n0 : Nat) (D : DataW Unit) (len cap : Nat) (A : Option Addr) (X : Nat → Nat → Int) (w : World) (hL : LogAt b n0 D w) (hn : n0 + len ≤ 1000) (hwf : ∀ i, i < len → wf5 (X i))
    (hA : 0 < len → ∃ bk off, A = some ⟨bk, off, none⟩ ∧ bk < w.heap.size ∧ bk ≠ b ∧ ∀ i, i < len → ∀ j, j < 5 → w.cell? ⟨bk, off + i * 5 + j, none⟩ = some (.int .i64 (X i j))) :
    Calls Tryd.prog 32 #[.map (some b), .slice A len cap] w fun e w' => e = .returned (.tuple #[]) ∧ LogAt b (n0 + len) (addTo D X len) w' ∧ w.grownBy w' (some b) := by
  have HLO := Lib.hid hL
  have HA := Lib.hid hA
  have HWF := Lib.hid hwf
  have hbl := hL.lt
  have hl1 : len ≤ 1000 := by omega
  clear hL hA hwf
  go_enter Tryd.func32, Tryd.ntmps32
  go_wp2_with fail
  go_loopw [5, 8] (fun v5 cnt wr => ∃ k : Nat, k ≤ len ∧ cnt = .int .i64 k ∧ LogAt b (n0 + k) (addTo D X k) wr ∧ w.grownBy wr (some b)) (fun _ cnt _ => len - (intOf cnt).toNat)
  case atStart => exact ⟨0, by omega, rfl, HLO.out, World.grownBy.refl _ _⟩
  case round =>
    obtain ⟨k, hk, rfl, hL, hg⟩ := hrel
    have HL := Lib.hid hL
    have HG := Lib.hid hg
    have hk0 : (0 : Int) ≤ k := by omega
    clear hL hg
    by_cases hlt : k < len
    · have hlt' : (k : Int) < len := by omega
      obtain ⟨bk, off, rfl, hbk, hne, hX⟩ := HA.out (by omega)
      have hrX : wr.rangeAt bk (off + k * 5) (ag i64s 5 (X k)).toList := by
        intro j v hj
        rw [ag_toList] at hj
        have hj' : j < 5 := by
          have := (List.getElem?_eq_some_iff.1 hj).1
          simpa using this
        simp only [List.getElem?_map, List.getElem?_range hj', Option.map_some, Option.some.injEq] at hj
        subst hj
        exact HG.out.cell (hX k hlt j hj') (by show some bk ≠ some b; simpa using hne)
      have HRX := Lib.hid hrX
      have hwk := HWF.out k hlt
      have HWK := Lib.hid hwk
      clear hrX hX hwk hlt
      go_upto_region 3 with (first | ((with_reducible refine gate_load A5 _ rfl ?_); refine load_mid_g rfl A5 _ rfl bk (off + k * 5) rfl _ _ HRX.out Tryd.underlying55 rfl ?hi ?_; (case hi => rw [Array.length_toList, ag_size]; exact info5)) | (refine wpList_store_mid rfl A5 _ _ rfl wr.heap.size 0 (ag i64s 5 (X k)) rfl rfl ?hth ?hin3 ?hon ?_; (case hth => exact there_row (alloc_at _ _) _ (by rw [ag_size]; exact Nat.le_refl _)); (case hin3 => exact info5_ag _); (case hon => exact ag_one i64s 5 _)))
      obtain ⟨q1, q2⟩ := k5_new wr (X k)
      have hblr : b < wr.heap.size := HL.out.lt
      refine cut_world (fun W => LogAt b (n0 + k) (addTo D X k) W ∧ w.grownBy W (some b) ∧ Bx wr.heap.size A5 i64s 5 (X k) W) ⟨HL.out.kept (below_grown q1 none) (by simp), HG.out.trans (below_grown q1 _), q2⟩ ?_
      clear q1 q2 HL HG HRX
      generalize wr.heap.size = kb at *
      rintro V ⟨hL, hg, hkb⟩
      obtain ⟨es, es1, clock, clock1, v0, st, c, e0, e1, e2, e3⟩ := own_entry hL law5 underTL Tryd.underlying3 zeroTI (show n0 + k < maxLen by unfold maxLen; omega) (key5 (X k) HWK.out)
      have HEN := Lib.hid e3
      have HE1 := Lib.hid e1
      have HG := Lib.hid hg
      have HKB := Lib.hid hkb
      have hkbs := (block_facts hkb).2.2
      have hME : ME b (.map es clock) (.map es1 clock1) V V := ⟨World.grownBy.refl _ _, .inl e0⟩
      have hmd : ME b (.map es clock) (.map es1 clock1) V V.drew := ⟨⟨rfl, rfl, rfl, Nat.le_refl _, fun _ _ _ => rfl⟩, .inl e0⟩
      clear hL hg hkb e0 e1 e3 hME
      refine wp_region_inv [] (fun W => ME b (.map es clock) (.map es1 clock1) V W) (fun W W' => MT b (.map es1 clock1) W W') 6 (by kernel_rfl) (by kernel_rfl) (by kernel_rfl) hmd (fun W W' h h' => h.next h') (fun _ _ h => h.gr.size) ?_
      simp only [List.take_succ_cons, List.take_zero, List.drop_succ_cons, List.drop_zero]
      refine wpInv_det (by kernel_rfl) (by kernel_rfl) ?_
      apply Exists.intro
      refine ⟨?_, ?_, ?_⟩
      · intro U W hC hH
        simp only [HypsU, predsOf, Region.binds, List.filterMap_cons, List.filterMap_nil, if_true, List.nil_append, List.cons_append, List.getD_cons_zero, List.getD_cons_succ] at hH
        simp only [fillPuts, Act.put, List.setIfInBounds_toArray, List.set_cons_zero, List.set_cons_succ, Nat.reduceAdd]
        go_wp2_with fail
        refine ⟨rfl, rfl, MT.refl _ _ _, ?_⟩
        conv => lhs; whnf
        try rfl
      · exact fun _ => rfl
      simp only [List.nil_append, List.cons_append, Nat.reduceAdd]
      refine wpInv_det (by kernel_rfl) (by kernel_rfl) ?_
      apply Exists.intro
      refine ⟨?_, ?_, ?_⟩
      · intro U W hC hH
        simp only [HypsU, predsOf, Region.binds, List.filterMap_cons, List.filterMap_nil, if_true, List.nil_append, List.cons_append, List.getD_cons_zero, List.getD_cons_succ] at hH
        simp only [fillPuts, Act.put, List.setIfInBounds_toArray, List.set_cons_zero, List.set_cons_succ, Nat.reduceAdd]
        refine load_row_g rfl A5 _ rfl kb rfl _ (ag i64s 5 (X k)) (0, 0) _ ((hC.gr.block kb hkbs (by intro e; simp at e; omega)).trans HKB.out) Tryd.underlying55 rfl (info5_ag _) ?_
        go_wp2_with fail
        refine ⟨rfl, rfl, MT.refl _ _ _, ?_⟩
        conv => lhs; whnf
        try rfl
      · exact fun _ => rfl
      simp only [List.nil_append, List.cons_append, Nat.reduceAdd]
      refine wpInv_det (by kernel_rfl) (by kernel_rfl) ?_
      apply Exists.intro
      refine ⟨?_, ?_, ?_⟩
      · intro U W hC hH
        simp only [HypsU, predsOf, Region.binds, List.filterMap_cons, List.filterMap_nil, if_true, List.nil_append, List.cons_append, List.getD_cons_zero, List.getD_cons_succ] at hH
        simp only [fillPuts, Act.put, List.setIfInBounds_toArray, List.set_cons_zero, List.set_cons_succ, Nat.reduceAdd]
        have heq := (HEN.out W hC.st).1
        simp only [hH]
        go_wp2_with fail
        refine ⟨rfl, rfl, MT.refl _ _ _, ?_⟩
        conv => lhs; whnf
        try rfl
      · exact fun _ => rfl
      simp only [List.nil_append, List.cons_append, Nat.reduceAdd]
      refine wpInv_det (by kernel_rfl) (by kernel_rfl) ?_
      apply Exists.intro
      refine ⟨?_, ?_, ?_⟩
      · intro U W hC hH
        simp only [HypsU, predsOf, Region.binds, List.filterMap_cons, List.filterMap_nil, if_true, List.nil_append, List.cons_append, List.getD_cons_zero, List.getD_cons_succ] at hH
        simp only [fillPuts, Act.put, List.setIfInBounds_toArray, List.set_cons_zero, List.set_cons_succ, Nat.reduceAdd]
        simp only [hH]
        go_wp2_with fail
        refine ⟨rfl, rfl, MT.refl _ _ _, ?_⟩
        conv => lhs; whnf
        try rfl
      · exact fun _ => rfl
      simp only [List.nil_append, List.cons_append, Nat.reduceAdd]
      refine ⟨fun U W => U 4 = .tuple #[v0, goInt st] ∧ W.heap[b]? = some (.map es1 clock1), fun _ _ => rfl, ?_, ?_, ?_⟩
      · rintro U W W' hC hT ⟨h4, hB⟩
        refine ⟨h4, ?_⟩
        rcases hT.st with h | h
        · rw [h]; exact hB
        · exact h
      · intro U W hC hH
        simp only [HypsU, predsOf, Region.binds, List.filterMap_cons, List.filterMap_nil, if_true, List.nil_append, List.cons_append, List.getD_cons_zero, List.getD_cons_succ] at hH
        simp only [fillPuts, Act.put, List.setIfInBounds_toArray, List.set_cons_zero, List.set_cons_succ, Nat.reduceAdd]
        have heq := (HEN.out W hC.st).2.1
        have hmt : MT b (.map es1 clock1) W (setBlock W b (.map es1 clock1)) := by
          rcases hC.st with h | h
          · exact ⟨set_grown _ h, .inr (heap_setBlock_same h _)⟩
          · exact ⟨set_grown _ h, .inr (heap_setBlock_same h _)⟩
        have hbb : (setBlock W b (.map es1 clock1)).heap[b]? = some (.map es1 clock1) := by
          rcases hC.st with h | h
          · exact heap_setBlock_same h _
          · exact heap_setBlock_same h _
        simp only [hH]
        go_wp2_with fail
        exact ⟨rfl, rfl, hmt, ⟨updU_eq _ _ _, hbb⟩, fun h => by cases h⟩
      simp only [List.nil_append, List.cons_append, Nat.reduceAdd]
      refine wpInv_det (by kernel_rfl) (by kernel_rfl) ?_
      apply Exists.intro
      refine ⟨?_, ?_, ?_⟩
      · intro U W hC hH
        simp only [HypsU, predsOf, Region.binds, List.filterMap_cons, List.filterMap_nil, if_true, List.nil_append, List.cons_append, List.getD_cons_zero, List.getD_cons_succ] at hH
        simp only [fillPuts, Act.put, List.setIfInBounds_toArray, List.set_cons_zero, List.set_cons_succ, Nat.reduceAdd]
        simp only [hH]
        go_wp2_with fail
        refine ⟨rfl, rfl, MT.refl _ _ _, ?_⟩
        conv => lhs; whnf
        try rfl
      · exact fun _ => rfl
      simp only [List.nil_append, List.cons_append, Nat.reduceAdd]
      simp only [List.nil_append, List.cons_append, Nat.reduceAdd, fillPuts, Act.put, List.setIfInBounds_toArray, List.set_cons_zero, List.set_cons_succ]
      rintro U W hC ⟨h0, h1, h2, h3, ⟨h4, hB⟩, h5, -⟩ -
      simp only [h0, h1, h2, h3, h4, h5]
      obtain ⟨es', clock', hst, hown⟩ := (HEN.out W hC.st).2.2 (.int .i64 (wrap64 (c + 1))) (.lit (.int .i64 (wrap64 (c + 1)))) hB (plainElem_int Tryd.underlying3 (wrap_wf _))
      have hgw := set_grown (.map es' clock') hB
      have HOW := Lib.hid hown
      have HGW := Lib.hid ((HG.out.trans hC.gr).trans hgw)
      clear h0 h1 h2 h3 h4 h5 hB hC hown hgw HG HKB HEN hkbs hmd
      unfold goInt at hst
      go_upto_region 4 with fail
      clear hst
      refine cut_world (fun Z => LogAt b (n0 + k + 1) ((addTo D X k).put (k5 (X k)) (.lit (.int .i64 (wrap64 (c + 1))))) Z ∧ w.grownBy Z (some b)) ⟨HOW.out, HGW.out⟩ ?_
      clear HOW HGW
      rintro Z ⟨hz1, hz2⟩
      have HZ1 := Lib.hid hz1
      have HZ2 := Lib.hid hz2
      clear hz1 hz2
      go_wp2_with fail
      go_roundw
      case rel =>
        have ec : cntD (addTo D X k) (k5 (X k)) = c := by unfold cntD; rw [HE1.out]
        refine ⟨k + 1, by omega, rfl, ?_, HZ2.out⟩
        have := HZ1.out
        show LogAt b (n0 + (k + 1)) (addD (addTo D X k) (X k)) Z
        unfold addD
        rw [ec]
        exact this
      case measure => simp [intOf]; omega
    · have hlt' : ¬ (k : Int) < len := by omega
      obtain rfl : k = len := by omega
      clear hlt
      go_wp2_with fail
      go_end0
      exact ⟨rfl, HL.out, HG.out⟩
end Go.Proofs.YtcibajleknhklaaDoor
end

section
namespace Go.Proofs.YtcibajleknhklaaDoor
open Go.RowKit Go.Proofs.YtcibajleknhklaaDoorW.PrintWords
open RShareTells
set_option linter.unusedSimpArgs false
set_option linter.unusedVariables false
/-- Has one more in the first place that differs? -/
def gtL : List Int → List Int → Bool
  | a :: l, b :: m => if a = b then gtL l m else decide (b < a)
  | _, _ => false
theorem cmp_one (a b : Int) : cmp_Compare_int.f a b = some (if a < b then -1 else if b < a then 1 else 0) := by
  unfold cmp_Compare_int.f cmp_isNaN_int.f
  simp
  split
  · rfl
  · split <;> rfl
theorem drop_cons (l : List Int) (i : Nat) (h : i < l.length) : l.drop i = l.getD i 0 :: l.drop (i + 1) := by
  rw [List.drop_eq_getElem_cons h, List.getD_eq_getElem?_getD, List.getElem?_eq_getElem h]; rfl
theorem cmp_l0 (l m : List Int) (n : Nat) (hl : l.length = n) (hm : m.length = n) (hn : n ≤ 100) : ∀ (d k i : Nat), i + d = n → d < k → ∃ r, slices_Compare_int_int.l0 k l m l n i = some r ∧ (0 < r ↔ gtL (l.drop i) (m.drop i) = true)
  | 0, k + 1, i, h, hk => by
    refine ⟨0, ?_, ?_⟩
    · rw [slices_Compare_int_int.l0, if_neg (by omega), if_neg (by omega)]
    · rw [List.drop_of_length_le (by omega), List.drop_of_length_le (by omega)]
      simp [gtL]
  | d + 1, k + 1, i, h, hk => by
    obtain ⟨r, h1, h2⟩ := cmp_l0 l m n hl hm hn d k (i + 1) (by omega) (by omega)
    rw [slices_Compare_int_int.l0, if_pos (by omega), if_pos (by omega), if_pos (by omega), if_neg (by omega), if_pos (by omega), cmp_one, rd_nat, rd_nat, drop_cons l i (by omega), drop_cons m i (by omega)]
    simp only [Option.bind_some, gtL]
    by_cases e : l.getD i 0 = m.getD i 0
    · have hv : (if l.getD i 0 < m.getD i 0 then (-1 : Int) else if m.getD i 0 < l.getD i 0 then 1 else 0) = 0 := by rw [if_neg (by omega), if_neg (by omega)]
      refine ⟨r, ?_, ?_⟩
      · rw [hv, if_pos rfl, wn_add1 (by omega)]
        exact h1
      · rw [if_pos e]
        exact h2
    · rw [if_neg e]
      by_cases e2 : l.getD i 0 < m.getD i 0
      · have hv : (if l.getD i 0 < m.getD i 0 then (-1 : Int) else if m.getD i 0 < l.getD i 0 then 1 else 0) = -1 := by rw [if_pos e2]
        refine ⟨-1, ?_, ?_⟩
        · rw [hv, if_neg (by omega)]
        · constructor
          · intro h; omega
          · intro h
            have := of_decide_eq_true h
            omega
      · have hv : (if l.getD i 0 < m.getD i 0 then (-1 : Int) else if m.getD i 0 < l.getD i 0 then 1 else 0) = 1 := by rw [if_neg e2, if_pos (by omega)]
        refine ⟨1, ?_, ?_⟩
        · rw [hv, if_neg (by omega)]
        · constructor
          · intro _
            exact decide_eq_true (by omega)
          · intro _; omega
theorem cmp5 (f g : Nat → Int) : ∃ r, slices_Compare_int_int.f 10 (L5 f) (L5 g) = some r ∧ (0 < r ↔ gtL (L5 f) (L5 g) = true) := cmp_l0 (L5 f) (L5 g) 5 rfl rfl (by omega) 5 10 0 (by omega) (by omega)
end Go.Proofs.YtcibajleknhklaaDoor
end

section
namespace Go.Proofs.YtcibajleknhklaaDoor
open Go.RowKit Go.BigFrame Go.WideMaps Go.WideElems Go.ChangeMaps Go.Proofs.YtcibajleknhklaaDoorW.PrintWords
open RShareTells
set_option linter.unusedSimpArgs false
set_option linter.unusedVariables false
theorem gtL_trans : ∀ (a b c : List Int), a.length = b.length → b.length = c.length → gtL a b = true → gtL b c = true → gtL a c = true
  | [], _, _, _, _, h, _ => by simp [gtL] at h
  | x :: a, [], _, h, _, _, _ => by simp at h
  | x :: a, y :: b, [], _, h, _, _ => by simp at h
  | x :: a, y :: b, z :: c, h1, h2, h3, h4 => by
    simp only [gtL] at h3 h4 ⊢
    by_cases e1 : x = y
    · subst e1
      rw [if_pos rfl] at h3
      by_cases e2 : x = z
      · rw [if_pos e2] at h4 ⊢
        exact gtL_trans a b c (by simpa using h1) (by simpa using h2) h3 h4
      · rw [if_neg e2] at h4 ⊢
        exact h4
    · rw [if_neg e1] at h3
      have h3' := of_decide_eq_true h3
      by_cases e2 : y = z
      · subst e2
        rw [if_neg e1]
        exact h3
      · rw [if_neg e2] at h4
        have h4' := of_decide_eq_true h4
        rw [if_neg (by omega)]
        exact decide_eq_true (by omega)
/-- (f, m) stands above (g, n). -/
def better (f : Nat → Int) (m : Int) (g : Nat → Int) (n : Int) : Prop := n < m ∨ (m = n ∧ gtL (L5 f) (L5 g) = true)
theorem better_trans {f g h : Nat → Int} {a b c : Int} (h1 : better f a g b) (h2 : better g b h c) : better f a h c := by
  unfold better at *
  rcases h1 with h1 | ⟨h1, h3⟩
  · left
    rcases h2 with h2 | ⟨h2, h4⟩ <;> omega
  · rcases h2 with h2 | ⟨h2, h4⟩
    · left; omega
    · right
      exact ⟨by omega, gtL_trans (L5 f) (L5 g) (L5 h) rfl rfl h3 h4⟩
/-- An entry of a log. -/
def InLog (D : DataW Unit) (f : Nat → Int) (m : Int) : Prop := wf5 f ∧ ∀ z, D.atKey (k5 f) z = .lit (.int .i64 m)
/-- The best of those that are no more left. -/
structure Best (D : DataW Unit) (left : Lit → Bool) (f : Nat → Int) (n : Int) : Prop where
  top : ∀ g m, InLog D g m → left (k5 g) = false → ¬ better g m f n
  src : (n = 0 ∧ ∀ j, j < 5 → f j = 0) ∨ InLog D f n
theorem Best.step {D : DataW Unit} {left : Lit → Bool} {f x : Nat → Int} {n c : Int} (h : Best D left f n) (hx : InLog D x c) (hb : better x c f n) : Best D (fun z => left z && !z.sameKey (k5 x)) x c := by
  refine ⟨fun g m hg hl hbg => ?_, .inr hx⟩
  by_cases e : left (k5 g) = true
  · rw [e] at hl
    have hs : (k5 g).sameKey (k5 x) = true := by simpa using hl
    have he : k5 g = k5 x := by
      by_cases hq : k5 g = k5 x
      · exact hq
      · have := Go.Maps.sameKey_ne hq
        rw [this] at hs
        cases hs
    have hj := key5_inj hg.1 hx.1 he
    have hm : m = c := by
      have h1 := hg.2 .nil
      have h2 := hx.2 .nil
      rw [he, h2] at h1
      simp only [DataW.lit.injEq, Lit.int.injEq, true_and] at h1
      exact h1.symm
    subst hm
    rw [better, L5_ext g x hj] at hbg
    rcases hbg with h1 | ⟨_, h2⟩
    · omega
    · have : ∀ l : List Int, gtL l l = false := fun l => by
        induction l with
        | nil => rfl
        | cons a l ih => simp [gtL, ih]
      rw [this] at h2
      cases h2
  · exact h.top g m hg (by simpa using e) (better_trans hbg hb)
theorem Best.keep {D : DataW Unit} {left : Lit → Bool} {f x : Nat → Int} {n c : Int} (h : Best D left f n) (hx : InLog D x c) (hb : ¬ better x c f n) : Best D (fun z => left z && !z.sameKey (k5 x)) f n := by
  refine ⟨fun g m hg hl => ?_, h.src⟩
  by_cases e : left (k5 g) = true
  · rw [e] at hl
    have hs : (k5 g).sameKey (k5 x) = true := by simpa using hl
    have he : k5 g = k5 x := by
      by_cases hq : k5 g = k5 x
      · exact hq
      · have := Go.Maps.sameKey_ne hq
        rw [this] at hs
        cases hs
    have hj := key5_inj hg.1 hx.1 he
    have hm : m = c := by
      have h1 := hg.2 .nil
      have h2 := hx.2 .nil
      rw [he, h2] at h1
      simp only [DataW.lit.injEq, Lit.int.injEq, true_and] at h1
      exact h1.symm
    subst hm
    unfold better at hb ⊢
    rw [L5_ext g x hj]
    exact hb
  · exact h.top g m hg (by simpa using e)
theorem wf_of_key {x : Nat → Int} {kl : Lit} (h : keyOf Tryd.prog A5 (.agg (ag i64s 5 x)) = some kl) : wf5 x ∧ kl = k5 x := by
  obtain ⟨f, hf, hw⟩ := key5_inv h
  have hj : ∀ j, j < 5 → x j = f j := fun j hj => by
    simp only [Value.agg.injEq] at hf
    have e := congrArg (fun a : Array Value => a[j]?) hf
    simp only [ag_get _ _ _ j hj, Option.some.injEq, Value.int.injEq, true_and] at e
    exact e
  have hx : wf5 x := fun j hj' => by rw [hj j hj']; exact hw j hj'
  refine ⟨hx, ?_⟩
  rw [key5 x hx] at h
  exact (Option.some.inj h).symm
/-- The call's frame: the result, the best. -/
structure LM (w : World) (B : Nat) (f : Nat → Int) (W : World) : Prop where
  below : Below B w W
  rb : Bx B A5 i64s 5 (fun _ => 0) W
  bb : Bx (B + 1) A5 i64s 5 f W
theorem LM.keepG {w B f} {W W' : World} {r : Nat} (h : LM w B f W) (hg : W.grownBy W' (some r)) (hr : B + 1 < r) : LM w B f W' := by
  have h1 := (block_facts h.bb).2.2
  exact ⟨h.below.trans ⟨hg.os, hg.tape, hg.output, hg.size, fun k hk => hg.block k (by omega) (by intro e; simp at e; omega)⟩, (hg.block _ (by omega) (by intro e; simp at e; omega)).trans h.rb, (hg.block _ h1 (by intro e; simp at e; omega)).trans h.bb⟩
theorem LM.keep {w B f} {W W' : World} (h : LM w B f W) (hb : Below W.heap.size W W') : LM w B f W' := by
  have h1 := (block_facts h.bb).2.2
  exact ⟨h.below.trans (hb.mono (by omega)), h.rb.keep hb, h.bb.keep hb⟩
set_option maxHeartbeats 4000000 in
set_option maxRecDepth 100000 in
theorem logMost (b n0 : Nat) (D : DataW Unit) (w : World) (hL : LogAt b n0 D w) :
    Calls Tryd.prog 34 #[.map (some b)] w fun e w' => ∃ f n, Best D (fun _ => false) f n ∧ e = .returned (.tuple #[.agg (ag i64s 5 f), .int .i64 n]) ∧ Below w.heap.size w w' := by
  have HLO := Lib.hid hL
  have hbl := hL.lt
  clear hL
  go_enter Tryd.func34, Tryd.ntmps34
  go_upto_region 3 with fail
  refine cut_world (fun W => LM w w.heap.size (fun _ => 0) W ∧ LogAt b n0 D W) ⟨⟨by (repeat' (first | (with_reducible exact Below.refl _ _) | (with_reducible assumption) | (with_reducible refine Below.alloc ?_ ?_ _) | (with_reducible refine below_grew ?_ ?_ _) | (with_reducible refine Below.setCell ?_ ?_ _) | (with_reducible refine Below.drew ?_) | (with_reducible refine below_drewN ?_ _) | omega | (simp; done) | (simp; omega))), alloc_two _ _ _, alloc_secondOf _ _ _⟩, HLO.out.kept (below_grown (by (repeat' (first | (with_reducible exact Below.refl _ _) | (with_reducible assumption) | (with_reducible refine Below.alloc ?_ ?_ _) | (with_reducible refine below_grew ?_ ?_ _) | (with_reducible refine Below.setCell ?_ ?_ _) | (with_reducible refine Below.drew ?_) | (with_reducible refine below_drewN ?_ _) | omega | (simp; done) | (simp; omega)))) none) (by simp)⟩ ?_
  rintro V ⟨hV, hL⟩
  generalize hBd : w.heap.size = B at *
  have HBd := Lib.hid hBd
  have HV := Lib.hid hV
  have HL := Lib.hid hL
  have hvs := (block_facts hV.bb).2.2
  clear hBd hV hL HLO
  go_upto_region 4 with (at_range; refine wpList_range_own _ rfl _ TL rfl A5 TI keyed5 underTL _ b n0 D rfl HL.out ?_; intro w0 hrg0 hg0 hs0; have HRG := Lib.hid hrg0; have HG0 := Lib.hid hg0; have HS0 := Lib.hid hs0; clear hrg0 hg0 hs0)
  have hlm := HV.out.keep (W' := w0) ⟨HG0.out.os, HG0.out.tape, HG0.out.output, HG0.out.size, fun k hk => HG0.out.block k hk (by simp)⟩
  obtain ⟨r, hr⟩ : ∃ r, V.heap.size = r := ⟨_, rfl⟩
  rw [hr] at hvs HRG
  simp only [hr]
  have hrb : B + 1 < r := hvs
  have HLM := Lib.hid hlm
  clear hr hlm HV HL HG0 HS0 hvs
  have hinv : ∀ (v : Value) (y : DataW Unit × List MemPlace), plainElem Tryd.prog TI v = some y → ∃ c : Int, v = .int .i64 c := fun v y h => by
    obtain ⟨c, h1, _⟩ := plainElem_int_inv Tryd.underlying3 h
    exact ⟨c, h1⟩
  have hinvK : ∀ (key : Value) (kl : Lit), keyOf Tryd.prog A5 key = some kl → ∃ x : Nat → Int, key = .agg (ag i64s 5 x) := fun key kl h => by
    obtain ⟨x, h1, _⟩ := key5_inv h
    exact ⟨x, h1⟩
  have HINV := Lib.hid hinv
  have HINVK := Lib.hid hinvK
  clear hinv hinvK
  go_frame
  go_loopw [5, 6, 7, 10] (fun v5 v6 v7 v10 wr => ∃ (f : Nat → Int) (n : Int) (left : Lit → Bool) (cnt : Nat), v5 = .int .i64 n ∧ wr.ranges Tryd.prog A5 (plainElem Tryd.prog TI) b r n0 D left cnt ∧ Best D left f n ∧ LM w B f wr) (fun _ _ _ _ wr => wr.rangeLeft b r)
  case atStart =>
    refine ⟨fun _ => 0, 0, _, _, rfl, HRG.out, ⟨fun g m hg hl => ?_, .inl ⟨rfl, fun _ _ => rfl⟩⟩, HLM.out⟩
    have h1 := hg.2 .nil
    rw [Go.Maps.atKey_of_not_has hl] at h1
    cases h1
  case round =>
    clear HRG HLM
    obtain ⟨f, n, left, cnt, rfl, hrg, hbest, hlm⟩ := hrel
    have HRG := Lib.hid hrg
    have HBE := Lib.hid hbest
    have HLM := Lib.hid hlm
    clear hrg hbest hlm
    go_upto_region 5 with (at_next; refine wpList_next_ranges _ rfl _ rfl A5 keyed5 (plainElem Tryd.prog TI) (fun x : Nat → Int => .agg (ag i64s 5 x)) (fun c : Int => .int .i64 c) HINVK.out HINV.out b r n0 D left cnt rfl HRG.out ?_ ?_)
    · intro hc0 hl
      have HLEFT := Lib.hid hl
      clear hc0 hl
      go_wp2_with (first | ((with_reducible refine gate_load A5 _ rfl ?_); refine load_row_g rfl A5 _ rfl (B + 1) rfl _ (ag i64s 5 f) (0, 0) _ HLM.out.bb Tryd.underlying55 rfl ?hin ?_; (case hin => exact info5_ag _)) | (refine wpList_store_mid rfl A5 _ _ rfl B 0 (ag i64s 5 f) rfl rfl ?hth ?hin3 ?hon ?_; (case hth => exact there_row HLM.out.rb _ (by rw [ag_size, ag_size]; exact Nat.le_refl _)); (case hin3 => exact info5_ag _); (case hon => exact ag_one i64s 5 _)))
      have q1 := cells_all HLM.out.rb (N := 5) (ag_size _ _ _) (cs := ag i64s 5 f) (ag_size _ _ _)
      have hfinb := (only_setCells wr B 0 (ag i64s 5 f).toList).below HLM.out.below (Nat.le_refl _)
      refine bodyPost_ret (v := .tuple #[.agg (ag i64s 5 f), .int .i64 n]) ?_ rfl ⟨f, n, ⟨fun g m hg _ => HBE.out.top g m hg (HLEFT.out _), HBE.out.src⟩, rfl, by rw [HBd.out]; exact hfinb⟩
      exact results_row_tmp rfl _ _ B _ _ _ _ _ rfl rfl q1 Tryd.underlying55 rfl (info5_ag _)
    · rintro x c kl a ps w1 cnt1 hkey hlk hv hat hrg1 hlt hgr hsz hen
      obtain ⟨hx, rfl⟩ := wf_of_key hkey
      obtain ⟨c', hc', ha, -⟩ := plainElem_int_inv Tryd.underlying3 hv
      simp only [Value.int.injEq, true_and] at hc'
      subst hc'
      simp only [Prod.mk.injEq] at ha
      have hin : InLog D x c := ⟨hx, fun z => by rw [hat z, ha.1]⟩
      have HIN := Lib.hid hin
      have hlm1 := HLM.out.keepG hgr hrb
      have HLM1 := Lib.hid hlm1
      have HRG1 := Lib.hid hrg1
      have HLT := Lib.hid hlt
      have HX := Lib.hid hx
      have hrw := hrg1.lt
      clear hkey hlk hv hat ha hin hlm1 hrg1 hlt hgr hsz HLM hx
      go_upto_region 6 with (refine wpList_store_mid rfl A5 _ _ rfl w1.heap.size 0 (ag i64s 5 x) rfl rfl ?hth ?hin3 ?hon ?_; (case hth => exact there_row (alloc_at _ _) _ (by rw [ag_size]; exact Nat.le_refl _)); (case hin3 => exact info5_ag _); (case hon => exact ag_one i64s 5 _))
      obtain ⟨q1, q2⟩ := k5_new w1 x
      refine cut_world (fun W => W.ranges Tryd.prog A5 (plainElem Tryd.prog TI) b r n0 D (fun z => left z && !z.sameKey (k5 x)) cnt1 ∧ LM w B f W ∧ Bx w1.heap.size A5 i64s 5 x W) ⟨HRG1.out.kept (below_grown q1 none) (by simp) (by simp), HLM1.out.keep q1, q2⟩ ?_
      clear q1 q2 HRG1 HLM1 hen
      have hkr : r < w1.heap.size := hrw
      generalize w1.heap.size = kb at *
      rintro V7 ⟨hrg, hlm, hkb⟩
      have HRG2 := Lib.hid hrg
      have HLM2 := Lib.hid hlm
      have HKB := Lib.hid hkb
      clear hrg hlm hkb hrw
      by_cases hcn : n < c
      · have HBS := Lib.hid (HBE.out.step HIN.out (.inl hcn))
        go_quiet (fail)
        go_upto_region 7 with fail
        refine cut_world (fun Z => Z.ranges Tryd.prog A5 (plainElem Tryd.prog TI) b r n0 D (fun z => left z && !z.sameKey (k5 x)) cnt1 ∧ LM w B f Z ∧ Bx kb A5 i64s 5 x Z) ⟨HRG2.out.kept (below_grown (show Below V7.heap.size V7 (V7.drewN nq) from below_drewN (Below.refl _ _) _) none) (by simp) (by simp), HLM2.out.keep (show Below V7.heap.size V7 (V7.drewN nq) from below_drewN (Below.refl _ _) _), HKB.out.keep (show Below V7.heap.size V7 (V7.drewN nq) from below_drewN (Below.refl _ _) _)⟩ ?_
        clear HRG2 HLM2 HKB
        rintro Z ⟨hrg, hlm, hkb⟩
        have HRG3 := Lib.hid hrg
        have HLM3 := Lib.hid hlm
        have HKB3 := Lib.hid hkb
        clear hrg hlm hkb
        go_wp2_with (first | ((with_reducible refine gate_load A5 _ rfl ?_); refine load_row_g rfl A5 _ rfl kb rfl _ (ag i64s 5 x) (0, 0) _ HKB3.out Tryd.underlying55 rfl ?hin ?_; (case hin => exact info5_ag _)) | (refine wpList_store_mid rfl A5 _ _ rfl (B + 1) 0 (ag i64s 5 x) rfl rfl ?hth ?hin3 ?hon ?_; (case hth => exact there_row HLM3.out.bb _ (by rw [ag_size, ag_size]; exact Nat.le_refl _)); (case hin3 => exact info5_ag _); (case hon => exact ag_one i64s 5 _)))
        have ho := only_setCells Z (B + 1) 0 (ag i64s 5 x).toList
        have hgo : Z.grownBy (Z.setCells (B + 1) 0 (ag i64s 5 x).toList) (some (B + 1)) := ⟨ho.os, ho.tape, ho.output, by rw [ho.size]; exact Nat.le_refl _, fun k _ hk => ho.block k (fun e => hk (by rw [e]))⟩
        have hrgn := HRG3.out.kept hgo (by intro e; simp at e; omega) (by intro e; simp at e; omega)
        go_roundw
        case rel => exact ⟨x, c, _, cnt1, rfl, hrgn, HBS.out, ⟨ho.below HLM3.out.below (by omega), (ho.block _ (by omega)).trans HLM3.out.rb, cells_all HLM3.out.bb (N := 5) (ag_size _ _ _) (ag_size _ _ _)⟩⟩
        case measure => rw [hrgn.left_eq, HRG.out.left_eq]; exact HLT.out
      · by_cases hce : c = n
        · subst hce
          obtain ⟨rr, hr1, hr2⟩ := cmp5 x f
          have hcx := bx_reads HKB.out .i64 0 5 (by omega) (by omega) (fun _ _ _ => rfl)
          have hcf := bx_reads HLM2.out.bb .i64 0 5 (by omega) (by omega) (fun _ _ _ => rfl)
          have ex : ((List.range 5).map fun i => x (0 + i)) = L5 x := rfl
          have ef : ((List.range 5).map fun i => f (0 + i)) = L5 f := rfl
          rw [ex] at hcx
          rw [ef] at hcf
          have HCMP := Lib.hid (fun (W : World) (hC : Below V7.heap.size V7 W) => (slices_Compare_int_int.calls 10 (some ⟨kb, 0, none⟩) 5 (L5 x) (some ⟨B + 1, 0, none⟩) 5 (L5 f) rr W (Kd.C_below hcx hC) (Nat.le_refl 5) (Kd.C_below hcf hC) (Nat.le_refl 5) hr1).mono fun e w' ⟨h1, h2⟩ => (⟨h1, h2.below⟩ : e = Ending.returned (.int .i64 rr) ∧ Below W.heap.size W w'))
          have HR2 := Lib.hid hr2
          clear hr1 hr2 hcx hcf ex ef
          have hbk := (block_facts HKB.out).2.2
          have hbf := (block_facts HLM2.out.bb).2.2
          clear hcn
          refine wp_region_inv [] (fun W => Below V7.heap.size V7 W) (fun W W' => Below W.heap.size W W') 13 (by kernel_rfl) (by kernel_rfl) (by kernel_rfl) ((Below.refl _ _).drew) (fun W W' h h' => h.trans (h'.mono h.size)) (fun _ _ h => h.size) ?_
          simp only [List.take_succ_cons, List.take_zero, List.drop_succ_cons, List.drop_zero]
          refine wpInv_det (by kernel_rfl) (by kernel_rfl) ?_
          apply Exists.intro
          refine ⟨?_, ?_, ?_⟩
          · intro U W hC hH
            have hc1 := (bcell hC).1
            have hf1 := (bcell hC).2
            simp only [HypsU, predsOf, Region.binds, List.filterMap_cons, List.filterMap_nil, if_true, List.nil_append, List.cons_append, List.getD_cons_zero, List.getD_cons_succ] at hH
            simp only [fillPuts, Act.put, List.setIfInBounds_toArray, List.set_cons_zero, List.set_cons_succ, Nat.reduceAdd]
            go_wp2_with fail
            refine ⟨rfl, rfl, by (repeat' (first | (with_reducible exact Below.refl _ _) | (with_reducible assumption) | (with_reducible refine Below.alloc ?_ ?_ _) | (with_reducible refine below_grew ?_ ?_ _) | (with_reducible refine Below.setCell ?_ ?_ _) | (with_reducible refine Below.drew ?_) | (with_reducible refine below_drewN ?_ _) | omega | (simp; done) | (simp; omega))), ?_⟩
            conv => lhs; whnf
            try rfl
          · exact fun _ => rfl
          simp only [List.nil_append, List.cons_append, Nat.reduceAdd]
          refine wpInv_det (by kernel_rfl) (by kernel_rfl) ?_
          apply Exists.intro
          refine ⟨?_, ?_, ?_⟩
          · intro U W hC hH
            have hc1 := (bcell hC).1
            have hf1 := (bcell hC).2
            simp only [HypsU, predsOf, Region.binds, List.filterMap_cons, List.filterMap_nil, if_true, List.nil_append, List.cons_append, List.getD_cons_zero, List.getD_cons_succ] at hH
            simp only [fillPuts, Act.put, List.setIfInBounds_toArray, List.set_cons_zero, List.set_cons_succ, Nat.reduceAdd]
            go_wp2_with fail
            refine ⟨rfl, rfl, by (repeat' (first | (with_reducible exact Below.refl _ _) | (with_reducible assumption) | (with_reducible refine Below.alloc ?_ ?_ _) | (with_reducible refine below_grew ?_ ?_ _) | (with_reducible refine Below.setCell ?_ ?_ _) | (with_reducible refine Below.drew ?_) | (with_reducible refine below_drewN ?_ _) | omega | (simp; done) | (simp; omega))), ?_⟩
            conv => lhs; whnf
            try rfl
          · exact fun _ => rfl
          simp only [List.nil_append, List.cons_append, Nat.reduceAdd]
          refine wpInv_det (by kernel_rfl) (by kernel_rfl) ?_
          apply Exists.intro
          refine ⟨?_, ?_, ?_⟩
          · intro U W hC hH
            have hc1 := (bcell hC).1
            have hf1 := (bcell hC).2
            simp only [HypsU, predsOf, Region.binds, List.filterMap_cons, List.filterMap_nil, if_true, List.nil_append, List.cons_append, List.getD_cons_zero, List.getD_cons_succ] at hH
            simp only [fillPuts, Act.put, List.setIfInBounds_toArray, List.set_cons_zero, List.set_cons_succ, Nat.reduceAdd]
            simp only [hH]; go_wp2_with fail
            refine ⟨rfl, rfl, by (repeat' (first | (with_reducible exact Below.refl _ _) | (with_reducible assumption) | (with_reducible refine Below.alloc ?_ ?_ _) | (with_reducible refine below_grew ?_ ?_ _) | (with_reducible refine Below.setCell ?_ ?_ _) | (with_reducible refine Below.drew ?_) | (with_reducible refine below_drewN ?_ _) | omega | (simp; done) | (simp; omega))), ?_⟩
            conv => lhs; whnf
            try rfl
          · exact fun _ => rfl
          simp only [List.nil_append, List.cons_append, Nat.reduceAdd]
          refine wpInv_det (by kernel_rfl) (by kernel_rfl) ?_
          apply Exists.intro
          refine ⟨?_, ?_, ?_⟩
          · intro U W hC hH
            have hc1 := (bcell hC).1
            have hf1 := (bcell hC).2
            simp only [HypsU, predsOf, Region.binds, List.filterMap_cons, List.filterMap_nil, if_true, List.nil_append, List.cons_append, List.getD_cons_zero, List.getD_cons_succ] at hH
            simp only [fillPuts, Act.put, List.setIfInBounds_toArray, List.set_cons_zero, List.set_cons_succ, Nat.reduceAdd]
            simp only [hH]; go_wp2_with fail
            refine ⟨rfl, rfl, by (repeat' (first | (with_reducible exact Below.refl _ _) | (with_reducible assumption) | (with_reducible refine Below.alloc ?_ ?_ _) | (with_reducible refine below_grew ?_ ?_ _) | (with_reducible refine Below.setCell ?_ ?_ _) | (with_reducible refine Below.drew ?_) | (with_reducible refine below_drewN ?_ _) | omega | (simp; done) | (simp; omega))), ?_⟩
            conv => lhs; whnf
            try rfl
          · exact fun _ => rfl
          simp only [List.nil_append, List.cons_append, Nat.reduceAdd]
          refine wpInv_det (by kernel_rfl) (by kernel_rfl) ?_
          apply Exists.intro
          refine ⟨?_, ?_, ?_⟩
          · intro U W hC hH
            have hc1 := (bcell hC).1
            have hf1 := (bcell hC).2
            simp only [HypsU, predsOf, Region.binds, List.filterMap_cons, List.filterMap_nil, if_true, List.nil_append, List.cons_append, List.getD_cons_zero, List.getD_cons_succ] at hH
            simp only [fillPuts, Act.put, List.setIfInBounds_toArray, List.set_cons_zero, List.set_cons_succ, Nat.reduceAdd]
            simp only [hH]; go_wp2_with fail
            refine ⟨rfl, rfl, by (repeat' (first | (with_reducible exact Below.refl _ _) | (with_reducible assumption) | (with_reducible refine Below.alloc ?_ ?_ _) | (with_reducible refine below_grew ?_ ?_ _) | (with_reducible refine Below.setCell ?_ ?_ _) | (with_reducible refine Below.drew ?_) | (with_reducible refine below_drewN ?_ _) | omega | (simp; done) | (simp; omega))), ?_⟩
            conv => lhs; whnf
            try rfl
          · exact fun _ => rfl
          simp only [List.nil_append, List.cons_append, Nat.reduceAdd]
          refine wpInv_det (by kernel_rfl) (by kernel_rfl) ?_
          apply Exists.intro
          refine ⟨?_, ?_, ?_⟩
          · intro U W hC hH
            have hc1 := (bcell hC).1
            have hf1 := (bcell hC).2
            simp only [HypsU, predsOf, Region.binds, List.filterMap_cons, List.filterMap_nil, if_true, List.nil_append, List.cons_append, List.getD_cons_zero, List.getD_cons_succ] at hH
            simp only [fillPuts, Act.put, List.setIfInBounds_toArray, List.set_cons_zero, List.set_cons_succ, Nat.reduceAdd]
            simp only [hH]; go_wp2_with fail
            refine ⟨rfl, rfl, by (repeat' (first | (with_reducible exact Below.refl _ _) | (with_reducible assumption) | (with_reducible refine Below.alloc ?_ ?_ _) | (with_reducible refine below_grew ?_ ?_ _) | (with_reducible refine Below.setCell ?_ ?_ _) | (with_reducible refine Below.drew ?_) | (with_reducible refine below_drewN ?_ _) | omega | (simp; done) | (simp; omega))), ?_⟩
            conv => lhs; whnf
            try rfl
          · exact fun _ => rfl
          simp only [List.nil_append, List.cons_append, Nat.reduceAdd]
          refine wpInv_det (by kernel_rfl) (by kernel_rfl) ?_
          apply Exists.intro
          refine ⟨?_, ?_, ?_⟩
          · intro U W hC hH
            have hc1 := (bcell hC).1
            have hf1 := (bcell hC).2
            simp only [HypsU, predsOf, Region.binds, List.filterMap_cons, List.filterMap_nil, if_true, List.nil_append, List.cons_append, List.getD_cons_zero, List.getD_cons_succ] at hH
            simp only [fillPuts, Act.put, List.setIfInBounds_toArray, List.set_cons_zero, List.set_cons_succ, Nat.reduceAdd]
            simp only [hH]; go_wp2_with fail
            refine ⟨rfl, rfl, by (repeat' (first | (with_reducible exact Below.refl _ _) | (with_reducible assumption) | (with_reducible refine Below.alloc ?_ ?_ _) | (with_reducible refine below_grew ?_ ?_ _) | (with_reducible refine Below.setCell ?_ ?_ _) | (with_reducible refine Below.drew ?_) | (with_reducible refine below_drewN ?_ _) | omega | (simp; done) | (simp; omega))), ?_⟩
            conv => lhs; whnf
            try rfl
          · exact fun _ => rfl
          simp only [List.nil_append, List.cons_append, Nat.reduceAdd]
          refine wpInv_det (by kernel_rfl) (by kernel_rfl) ?_
          apply Exists.intro
          refine ⟨?_, ?_, ?_⟩
          · intro U W hC hH
            have hc1 := (bcell hC).1
            have hf1 := (bcell hC).2
            simp only [HypsU, predsOf, Region.binds, List.filterMap_cons, List.filterMap_nil, if_true, List.nil_append, List.cons_append, List.getD_cons_zero, List.getD_cons_succ] at hH
            simp only [fillPuts, Act.put, List.setIfInBounds_toArray, List.set_cons_zero, List.set_cons_succ, Nat.reduceAdd]
            simp only [hH]; go_wp2_with fail
            refine ⟨rfl, rfl, by (repeat' (first | (with_reducible exact Below.refl _ _) | (with_reducible assumption) | (with_reducible refine Below.alloc ?_ ?_ _) | (with_reducible refine below_grew ?_ ?_ _) | (with_reducible refine Below.setCell ?_ ?_ _) | (with_reducible refine Below.drew ?_) | (with_reducible refine below_drewN ?_ _) | omega | (simp; done) | (simp; omega))), ?_⟩
            conv => lhs; whnf
            try rfl
          · exact fun _ => rfl
          simp only [List.nil_append, List.cons_append, Nat.reduceAdd]
          refine wpInv_det (by kernel_rfl) (by kernel_rfl) ?_
          apply Exists.intro
          refine ⟨?_, ?_, ?_⟩
          · intro U W hC hH
            have hc1 := (bcell hC).1
            have hf1 := (bcell hC).2
            simp only [HypsU, predsOf, Region.binds, List.filterMap_cons, List.filterMap_nil, if_true, List.nil_append, List.cons_append, List.getD_cons_zero, List.getD_cons_succ] at hH
            simp only [fillPuts, Act.put, List.setIfInBounds_toArray, List.set_cons_zero, List.set_cons_succ, Nat.reduceAdd]
            simp only [hH]; go_wp2_with fail
            refine ⟨rfl, rfl, by (repeat' (first | (with_reducible exact Below.refl _ _) | (with_reducible assumption) | (with_reducible refine Below.alloc ?_ ?_ _) | (with_reducible refine below_grew ?_ ?_ _) | (with_reducible refine Below.setCell ?_ ?_ _) | (with_reducible refine Below.drew ?_) | (with_reducible refine below_drewN ?_ _) | omega | (simp; done) | (simp; omega))), ?_⟩
            conv => lhs; whnf
            try rfl
          · exact fun _ => rfl
          simp only [List.nil_append, List.cons_append, Nat.reduceAdd]
          refine wpInv_det (by kernel_rfl) (by kernel_rfl) ?_
          apply Exists.intro
          refine ⟨?_, ?_, ?_⟩
          · intro U W hC hH
            have hc1 := (bcell hC).1
            have hf1 := (bcell hC).2
            simp only [HypsU, predsOf, Region.binds, List.filterMap_cons, List.filterMap_nil, if_true, List.nil_append, List.cons_append, List.getD_cons_zero, List.getD_cons_succ] at hH
            simp only [fillPuts, Act.put, List.setIfInBounds_toArray, List.set_cons_zero, List.set_cons_succ, Nat.reduceAdd]
            simp only [hH]; go_wp2_with fail
            refine ⟨rfl, rfl, by (repeat' (first | (with_reducible exact Below.refl _ _) | (with_reducible assumption) | (with_reducible refine Below.alloc ?_ ?_ _) | (with_reducible refine below_grew ?_ ?_ _) | (with_reducible refine Below.setCell ?_ ?_ _) | (with_reducible refine Below.drew ?_) | (with_reducible refine below_drewN ?_ _) | omega | (simp; done) | (simp; omega))), ?_⟩
            conv => lhs; whnf
            try rfl
          · exact fun _ => rfl
          simp only [List.nil_append, List.cons_append, Nat.reduceAdd]
          refine wpInv_det (by kernel_rfl) (by kernel_rfl) ?_
          apply Exists.intro
          refine ⟨?_, ?_, ?_⟩
          · intro U W hC hH
            have hc1 := (bcell hC).1
            have hf1 := (bcell hC).2
            simp only [HypsU, predsOf, Region.binds, List.filterMap_cons, List.filterMap_nil, if_true, List.nil_append, List.cons_append, List.getD_cons_zero, List.getD_cons_succ] at hH
            simp only [fillPuts, Act.put, List.setIfInBounds_toArray, List.set_cons_zero, List.set_cons_succ, Nat.reduceAdd]
            simp only [hH]; go_wp2_with fail; refine (HCMP.out _ hC).mono ?_; rintro e w' ⟨rfl, hb1⟩; obtain ⟨x1, rfl⟩ := below_as_grew hb1; clear hb1; go_wp2_with fail
            refine ⟨rfl, rfl, by (repeat' (first | (with_reducible exact Below.refl _ _) | (with_reducible assumption) | (with_reducible refine Below.alloc ?_ ?_ _) | (with_reducible refine below_grew ?_ ?_ _) | (with_reducible refine Below.setCell ?_ ?_ _) | (with_reducible refine Below.drew ?_) | (with_reducible refine below_drewN ?_ _) | omega | (simp; done) | (simp; omega))), ?_⟩
            conv => lhs; whnf
            try rfl
          · exact fun _ => rfl
          simp only [List.nil_append, List.cons_append, Nat.reduceAdd]
          refine wpInv_det (by kernel_rfl) (by kernel_rfl) ?_
          apply Exists.intro
          refine ⟨?_, ?_, ?_⟩
          · intro U W hC hH
            have hc1 := (bcell hC).1
            have hf1 := (bcell hC).2
            simp only [HypsU, predsOf, Region.binds, List.filterMap_cons, List.filterMap_nil, if_true, List.nil_append, List.cons_append, List.getD_cons_zero, List.getD_cons_succ] at hH
            simp only [fillPuts, Act.put, List.setIfInBounds_toArray, List.set_cons_zero, List.set_cons_succ, Nat.reduceAdd]
            simp only [hH]; go_wp2_with fail
            refine ⟨rfl, rfl, by (repeat' (first | (with_reducible exact Below.refl _ _) | (with_reducible assumption) | (with_reducible refine Below.alloc ?_ ?_ _) | (with_reducible refine below_grew ?_ ?_ _) | (with_reducible refine Below.setCell ?_ ?_ _) | (with_reducible refine Below.drew ?_) | (with_reducible refine below_drewN ?_ _) | omega | (simp; done) | (simp; omega))), ?_⟩
            conv => lhs; whnf
            try rfl
          · exact fun _ => rfl
          simp only [List.nil_append, List.cons_append, Nat.reduceAdd]
          refine wpInv_det (by kernel_rfl) (by kernel_rfl) ?_
          apply Exists.intro
          refine ⟨?_, ?_, ?_⟩
          · intro U W hC hH
            have hc1 := (bcell hC).1
            have hf1 := (bcell hC).2
            simp only [HypsU, predsOf, Region.binds, List.filterMap_cons, List.filterMap_nil, if_true, List.nil_append, List.cons_append, List.getD_cons_zero, List.getD_cons_succ] at hH
            simp only [fillPuts, Act.put, List.setIfInBounds_toArray, List.set_cons_zero, List.set_cons_succ, Nat.reduceAdd]
            simp only [hH]; go_wp2_with fail
            refine ⟨rfl, rfl, by (repeat' (first | (with_reducible exact Below.refl _ _) | (with_reducible assumption) | (with_reducible refine Below.alloc ?_ ?_ _) | (with_reducible refine below_grew ?_ ?_ _) | (with_reducible refine Below.setCell ?_ ?_ _) | (with_reducible refine Below.drew ?_) | (with_reducible refine below_drewN ?_ _) | omega | (simp; done) | (simp; omega))), ?_⟩
            conv => lhs; whnf
            try rfl
          · exact fun _ => rfl
          simp only [List.nil_append, List.cons_append, Nat.reduceAdd]
          simp only [List.nil_append, List.cons_append, Nat.reduceAdd, fillPuts, Act.put, List.setIfInBounds_toArray, List.set_cons_zero, List.set_cons_succ]
          rintro U W hC ⟨h0, h1, h2, h3, h4, h5, h6, h7, h8, h9, h10, h11, h12, -⟩ -
          simp only [h0, h1, h2, h3, h4, h5, h6, h7, h8, h9, h10, h11, h12]
          have HCW := Lib.hid hC
          clear h0 h1 h2 h3 h4 h5 h6 h7 h8 h9 h10 h11 h12 hC HCMP hbk hbf
          by_cases hgt : 0 < rr
          · have HBS := Lib.hid (HBE.out.step HIN.out (.inr ⟨rfl, HR2.out.1 hgt⟩))
            go_upto_region 7 with fail
            refine cut_world (fun Z => Z.ranges Tryd.prog A5 (plainElem Tryd.prog TI) b r n0 D (fun z => left z && !z.sameKey (k5 x)) cnt1 ∧ LM w B f Z ∧ Bx kb A5 i64s 5 x Z) ⟨HRG2.out.kept (below_grown HCW.out none) (by simp) (by simp), HLM2.out.keep HCW.out, HKB.out.keep HCW.out⟩ ?_
            clear HRG2 HLM2 HKB HCW
            rintro Z ⟨hrg, hlm, hkb⟩
            have HRG3 := Lib.hid hrg
            have HLM3 := Lib.hid hlm
            have HKB3 := Lib.hid hkb
            clear hrg hlm hkb
            go_wp2_with (first | ((with_reducible refine gate_load A5 _ rfl ?_); refine load_row_g rfl A5 _ rfl kb rfl _ (ag i64s 5 x) (0, 0) _ HKB3.out Tryd.underlying55 rfl ?hin ?_; (case hin => exact info5_ag _)) | (refine wpList_store_mid rfl A5 _ _ rfl (B + 1) 0 (ag i64s 5 x) rfl rfl ?hth ?hin3 ?hon ?_; (case hth => exact there_row HLM3.out.bb _ (by rw [ag_size, ag_size]; exact Nat.le_refl _)); (case hin3 => exact info5_ag _); (case hon => exact ag_one i64s 5 _)))
            have ho := only_setCells Z (B + 1) 0 (ag i64s 5 x).toList
            have hgo : Z.grownBy (Z.setCells (B + 1) 0 (ag i64s 5 x).toList) (some (B + 1)) := ⟨ho.os, ho.tape, ho.output, by rw [ho.size]; exact Nat.le_refl _, fun k _ hk => ho.block k (fun e => hk (by rw [e]))⟩
            have hrgn := HRG3.out.kept hgo (by intro e; simp at e; omega) (by intro e; simp at e; omega)
            go_roundw
            case rel => exact ⟨x, c, _, cnt1, rfl, hrgn, HBS.out, ⟨ho.below HLM3.out.below (by omega), (ho.block _ (by omega)).trans HLM3.out.rb, cells_all HLM3.out.bb (N := 5) (ag_size _ _ _) (ag_size _ _ _)⟩⟩
            case measure => rw [hrgn.left_eq, HRG.out.left_eq]; exact HLT.out
          · have HBK := Lib.hid (HBE.out.keep HIN.out (by unfold better; rintro (h | ⟨-, h⟩); (omega); (exact hgt (HR2.out.2 h))))
            go_wp2_with fail
            have hrgn := HRG2.out.kept (below_grown HCW.out none) (by simp) (by simp)
            go_roundw
            case rel => exact ⟨f, c, _, cnt1, rfl, hrgn, HBK.out, HLM2.out.keep HCW.out⟩
            case measure => rw [hrgn.left_eq, HRG.out.left_eq]; exact HLT.out
        · have hlt2 : c < n := by omega
          have HBK := Lib.hid (HBE.out.keep HIN.out (by unfold better; omega))
          go_quiet (fail)
          go_wp2_with fail
          have hbv := (show Below V7.heap.size V7 (V7.drewN nq) from below_drewN (Below.refl _ _) _)
          have hrgn := HRG2.out.kept (below_grown hbv none) (by simp) (by simp)
          go_roundw
          case rel => exact ⟨f, n, _, cnt1, rfl, hrgn, HBK.out, HLM2.out.keep hbv⟩
          case measure => rw [hrgn.left_eq, HRG.out.left_eq]; exact HLT.out
end Go.Proofs.YtcibajleknhklaaDoor
end

section
namespace Go.Proofs.YtcibajleknhklaaDoor
open Go.RowKit Go.WideMaps Go.WideElems Go.ChangeMaps
set_option linter.unusedSimpArgs false
set_option linter.unusedVariables false
/-- How often it came among so many. -/
def cntTo (X : Nat → Nat → Int) (f : Nat → Int) : Nat → Nat
  | 0 => 0
  | n + 1 => cntTo X f n + (if L5 (X n) = L5 f then 1 else 0)
theorem cntTo_le (X : Nat → Nat → Int) (f : Nat → Int) : ∀ n, cntTo X f n ≤ n
  | 0 => Nat.le_refl 0
  | n + 1 => by rw [cntTo]; have := cntTo_le X f n; split <;> omega
theorem L5_inj {f g : Nat → Int} (h : L5 f = L5 g) : ∀ j, j < 5 → f j = g j := fun j hj => by
  rw [← L5_at f j hj, ← L5_at g j hj, h]
theorem k5_of_L5 {f g : Nat → Int} (h : L5 f = L5 g) : k5 f = k5 g := by
  have := L5_inj h
  unfold k5
  rw [this 0 (by omega), this 1 (by omega), this 2 (by omega), this 3 (by omega), this 4 (by omega)]
theorem addTo_map (X : Nat → Nat → Int) : ∀ n, Go.Maps.IsMap (addTo (.map []) X n)
  | 0 => Go.Maps.isMap_empty
  | n + 1 => (addTo_map X n).put _ _
theorem at_add (X : Nat → Nat → Int) (f : Nat → Int) (hf : wf5 f) : ∀ (n : Nat), n ≤ 1000 → (∀ i, i < n → wf5 (X i)) → ∀ z, (addTo (.map []) X n).atKey (k5 f) z = if cntTo X f n = 0 then z else .lit (.int .i64 (cntTo X f n))
  | 0, _, _, z => by
    rw [cntTo, if_pos rfl]
    exact Go.Maps.atKey_of_not_has (by rfl) z
  | n + 1, hn, hw, z => by
    have ih := at_add X f hf n (by omega) (fun i hi => hw i (by omega))
    have hle := cntTo_le X f n
    show ((addTo (.map []) X n).put (k5 (X n)) _).atKey (k5 f) z = _
    rw [cntTo]
    by_cases e : L5 (X n) = L5 f
    · rw [if_pos e, if_neg (by omega), k5_of_L5 e, Go.Maps.atKey_put_same (addTo_map X n) (keyed5.key (key5 f hf))]
      have ec : cntD (addTo (.map []) X n) (k5 f) = cntTo X f n := by
        unfold cntD
        rw [ih]
        by_cases h0 : cntTo X f n = 0
        · rw [if_pos h0, h0]; rfl
        · rw [if_neg h0]
      rw [ec]
      congr 2
      have : wrap64 ((cntTo X f n : Int) + 1) = ((cntTo X f n + 1 : Nat) : Int) := wn_add1 (by omega)
      rw [this]
    · rw [if_neg e, Nat.add_zero, Go.Maps.atKey_put_other (fun h => e (L5_ext _ _ (fun j hj => (key5_inj hf (hw n (by omega)) h j hj).symm)))]
      exact ih z
/-- What is in a log. -/
theorem inLog_iff (X : Nat → Nat → Int) (n : Nat) (hn : n ≤ 1000) (hw : ∀ i, i < n → wf5 (X i)) (f : Nat → Int) (m : Int) : InLog (addTo (.map []) X n) f m ↔ wf5 f ∧ m = cntTo X f n ∧ 0 < cntTo X f n := by
  constructor
  · rintro ⟨hf, h⟩
    have h1 := h .nil
    rw [at_add X f hf n hn hw] at h1
    by_cases h0 : cntTo X f n = 0
    · rw [if_pos h0] at h1
      cases h1
    · rw [if_neg h0] at h1
      simp only [DataW.lit.injEq, Lit.int.injEq, true_and] at h1
      exact ⟨hf, h1.symm, by omega⟩
  · rintro ⟨hf, rfl, h0⟩
    refine ⟨hf, fun z => ?_⟩
    rw [at_add X f hf n hn hw, if_neg (by omega)]
end Go.Proofs.YtcibajleknhklaaDoor
end

section
namespace Go.Proofs.YtcibajleknhklaaDoor
open Go.RowKit Go.WideMaps Go.WideElems Go.ChangeMaps
set_option linter.unusedSimpArgs false
set_option linter.unusedVariables false
theorem addTo_app (D : DataW Unit) (X : Nat → Nat → Int) (k : Nat) : ∀ n, addTo (addTo D X k) (fun i => X (k + i)) n = addTo D X (k + n)
  | 0 => rfl
  | n + 1 => by
    show addD (addTo (addTo D X k) (fun i => X (k + i)) n) (X (k + n)) = addD (addTo D X (k + n)) (X (k + n))
    rw [addTo_app D X k n]
/-- How many of the list's results are no more left. -/
def visN (X : Nat → Nat → Int) (left : Lit → Bool) : Nat → Nat
  | 0 => 0
  | n + 1 => visN X left n + (if left (k5 (X n)) = true then 0 else 1)
theorem vis_all (X : Nat → Nat → Int) (left : Lit → Bool) (h : ∀ z, left z = false) : ∀ n, visN X left n = n
  | 0 => rfl
  | n + 1 => by rw [visN, vis_all X left h n, h]; rfl
theorem vis_none (X : Nat → Nat → Int) (left : Lit → Bool) : ∀ n, (∀ i, i < n → left (k5 (X i)) = true) → visN X left n = 0
  | 0, _ => rfl
  | n + 1, h => by rw [visN, vis_none X left n (fun i hi => h i (by omega)), h n (by omega)]; rfl
theorem k5_iff {f g : Nat → Int} (hf : wf5 f) (hg : wf5 g) : k5 f = k5 g ↔ L5 f = L5 g :=
  ⟨fun h => L5_ext _ _ (key5_inj hf hg h), k5_of_L5⟩
theorem vis_step (X : Nat → Nat → Int) (left : Lit → Bool) (x : Nat → Int) (hx : wf5 x) (hl : left (k5 x) = true) : ∀ n, (∀ i, i < n → wf5 (X i)) → visN X (fun z => left z && !z.sameKey (k5 x)) n = visN X left n + cntTo X x n
  | 0, _ => rfl
  | n + 1, h => by
    rw [visN, visN, cntTo, vis_step X left x hx hl n (fun i hi => h i (by omega))]
    by_cases e : L5 (X n) = L5 x
    · have ek : k5 (X n) = k5 x := k5_of_L5 e
      have hs : (k5 x).sameKey (k5 x) = true := WideAt.sameKey_self (Go.Maps.Keyed.key keyed5 (key5 x hx))
      rw [ek, hl, hs, if_pos e]
      simp
      omega
    · have ek : ¬ k5 (X n) = k5 x := fun h' => e ((k5_iff (h n (by omega)) hx).1 h')
      rw [Go.Maps.sameKey_ne ek, if_neg e]
      simp
      omega
theorem gtL_irrefl : ∀ l : List Int, gtL l l = false
  | [] => rfl
  | a :: l => by simp [gtL, gtL_irrefl l]
theorem gtL_total : ∀ a b : List Int, a.length = b.length → gtL a b = false → gtL b a = false → a = b
  | [], [], _, _, _ => rfl
  | [], _ :: _, h, _, _ => by simp at h
  | _ :: _, [], h, _, _ => by simp at h
  | a :: l, b :: m, h, h1, h2 => by
    unfold gtL at h1 h2
    by_cases e : a = b
    · rw [if_pos e] at h1
      rw [if_pos e.symm] at h2
      rw [e, gtL_total l m (by simpa using h) h1 h2]
    · rw [if_neg e] at h1
      rw [if_neg (fun h => e h.symm)] at h2
      have := of_decide_eq_false h1
      have := of_decide_eq_false h2
      omega
/-- The most frequent among the first so many. -/
structure Top (X : Nat → Nat → Int) (N i : Nat) (f : Nat → Int) (n : Int) : Prop where
  top : ∀ j, j < i → ¬ better (X j) (cntTo X (X j) N) f n
  src : (n = 0 ∧ ∀ j, j < 5 → f j = 0) ∨ ∃ j, j < N ∧ L5 f = L5 (X j) ∧ n = cntTo X (X j) N
theorem cnt_pos (X : Nat → Nat → Int) : ∀ (N i : Nat), i < N → 0 < cntTo X (X i) N
  | N + 1, i, h => by
    rw [cntTo]
    by_cases e : i = N
    · subst e
      rw [if_pos rfl]
      omega
    · have := cnt_pos X N i (by omega)
      omega
theorem cnt_L5 (X : Nat → Nat → Int) {f g : Nat → Int} (h : L5 f = L5 g) : ∀ N, cntTo X f N = cntTo X g N
  | 0 => rfl
  | N + 1 => by rw [cntTo, cntTo, cnt_L5 X h N, h]
theorem Top.zero (X : Nat → Nat → Int) (N : Nat) : Top X N 0 (fun _ => 0) 0 := ⟨fun j hj => by omega, .inl ⟨rfl, fun _ _ => rfl⟩⟩
theorem better_irrefl (f : Nat → Int) (n : Int) : ¬ better f n f n := fun h => by
  rcases h with h | ⟨_, h⟩
  · omega
  · rw [gtL_irrefl] at h; cases h
theorem Top.take {X : Nat → Nat → Int} {N i : Nat} {f : Nat → Int} {n : Int} (h : Top X N i f n) (hi : i < N) (hb : better (X i) (cntTo X (X i) N) f n) : Top X N (i + 1) (X i) (cntTo X (X i) N) := by
  refine ⟨fun j hj hbj => ?_, .inr ⟨i, hi, rfl, rfl⟩⟩
  by_cases e : j = i
  · subst e; exact better_irrefl _ _ hbj
  · exact h.top j (by omega) (better_trans hbj hb)
theorem Top.pass {X : Nat → Nat → Int} {N i : Nat} {f : Nat → Int} {n : Int} (h : Top X N i f n) (hb : ¬ better (X i) (cntTo X (X i) N) f n) : Top X N (i + 1) f n := by
  refine ⟨fun j hj => ?_, h.src⟩
  by_cases e : j = i
  · subst e; exact hb
  · exact h.top j (by omega)
theorem best_top {X : Nat → Nat → Int} {N : Nat} (hN : N ≤ 1000) (hw : ∀ i, i < N → wf5 (X i)) {f : Nat → Int} {n : Int} (h : Best (addTo (.map []) X N) (fun _ => false) f n) : Top X N N f n := by
  refine ⟨fun j hj hb => ?_, ?_⟩
  · exact h.top (X j) _ ((inLog_iff X N hN hw (X j) _).2 ⟨hw j hj, rfl, cnt_pos X N j hj⟩) rfl hb
  · rcases h.src with h1 | h1
    · exact .inl h1
    · obtain ⟨hf, rfl, hp⟩ := (inLog_iff X N hN hw f n).1 h1
      have : ∀ M, 0 < cntTo X f M → ∃ j, j < M ∧ L5 (X j) = L5 f := fun M => by
        induction M with
        | zero => intro h; simp [cntTo] at h
        | succ M ih =>
          intro h
          rw [cntTo] at h
          by_cases e : L5 (X M) = L5 f
          · exact ⟨M, by omega, e⟩
          · rw [if_neg e] at h
            obtain ⟨j, hj, he⟩ := ih (by omega)
            exact ⟨j, by omega, he⟩
      obtain ⟨j, hj, he⟩ := this N hp
      exact .inr ⟨j, hj, he.symm, by rw [cnt_L5 X he.symm N]⟩
theorem top_one {X : Nat → Nat → Int} {N : Nat} {f g : Nat → Int} {n m : Int} (hf : Top X N N f n) (hg : Top X N N g m) : L5 f = L5 g ∧ n = m := by
  by_cases h0 : N = 0
  · subst h0
    rcases hf.src with ⟨h1, h2⟩ | ⟨j, hj, _⟩
    · rcases hg.src with ⟨h3, h4⟩ | ⟨j, hj, _⟩
      · exact ⟨L5_ext _ _ fun j hj => by rw [h2 j hj, h4 j hj], by omega⟩
      · omega
    · omega
  · have hp := cnt_pos X N 0 (by omega)
    have key : ∀ {f : Nat → Int} {n : Int}, Top X N N f n → ∃ j, j < N ∧ L5 f = L5 (X j) ∧ n = cntTo X (X j) N := fun h => by
      rcases h.src with ⟨h1, _⟩ | h1
      · exact absurd (.inl (by omega)) (h.top 0 (by omega))
      · exact h1
    obtain ⟨i, hi, ei, ni⟩ := key hf
    obtain ⟨k, hk, ek, nk⟩ := key hg
    have h1 := hf.top k hk
    have h2 := hg.top i hi
    rw [← nk] at h1
    rw [← ni] at h2
    unfold better at h1 h2
    rw [← ek] at h1
    rw [← ei] at h2
    have e : n = m := by
      have a1 : ¬ n < m := fun h => h1 (.inl h)
      have a2 : ¬ m < n := fun h => h2 (.inl h)
      omega
    subst e
    refine ⟨gtL_total _ _ rfl ?_ ?_, rfl⟩
    · cases hq : gtL (L5 f) (L5 g)
      · rfl
      · exact absurd (.inr ⟨rfl, hq⟩) h2
    · cases hq : gtL (L5 g) (L5 f)
      · rfl
      · exact absurd (.inr ⟨rfl, hq⟩) h1
end Go.Proofs.YtcibajleknhklaaDoor
end

section
namespace Go.Proofs.YtcibajleknhklaaDoor
open Go.RowKit Go.BigFrame Go.WideMaps Go.WideElems Go.ChangeMaps
set_option linter.unusedSimpArgs false
set_option linter.unusedVariables false
/-- A list of results, where it lies. -/
def LA (A : Option Addr) (len : Nat) (X : Nat → Nat → Int) (w : World) : Prop := 0 < len → ∃ bk off, A = some ⟨bk, off, none⟩ ∧ bk < w.heap.size ∧ ∀ i, i < len → ∀ j, j < 5 → w.cell? ⟨bk, off + i * 5 + j, none⟩ = some (.int .i64 (X i j))
theorem LA.keep {A len X} {w w' : World} (h : LA A len X w) (hb : Below w.heap.size w w') : LA A len X w' := fun hp => by
  obtain ⟨bk, off, rfl, hbk, hc⟩ := h hp
  exact ⟨bk, off, rfl, Nat.lt_of_lt_of_le hbk hb.size, fun i hi j hj => (hb.cell (p := ⟨bk, off + i * 5 + j, none⟩) hbk).trans (hc i hi j hj)⟩
theorem range5 {w : World} {bk o : Nat} {X : Nat → Int} (h : ∀ j, j < 5 → w.cell? ⟨bk, o + j, none⟩ = some (.int .i64 (X j))) : w.rangeAt bk o (ag i64s 5 X).toList := by
  intro j v hj
  rw [ag_toList] at hj
  have hj' : j < 5 := by
    have := (List.getElem?_eq_some_iff.1 hj).1
    simpa using this
  simp only [List.getElem?_map, List.getElem?_range hj', Option.map_some, Option.some.injEq] at hj
  subst hj
  exact h j hj'
theorem range_keep {w w' : World} {bk o : Nat} {X : Nat → Int} (h : w.rangeAt bk o (ag i64s 5 X).toList) (hl : bk < w.heap.size) (hb : Below w.heap.size w w') : w'.rangeAt bk o (ag i64s 5 X).toList := fun j v hj =>
  (hb.cell (p := ⟨bk, o + j, none⟩) hl).trans (h j v hj)
theorem L5_ne {f g : Nat → Int} (h : ¬ L5 f = L5 g) : ∃ j, j < 5 ∧ ¬ f j = g j := by
  apply Classical.byContradiction
  intro hn
  exact h (L5_ext _ _ fun j hj => Classical.byContradiction fun hne => hn ⟨j, hj, hne⟩)
set_option maxHeartbeats 4000000 in
set_option maxRecDepth 100000 in
theorem refMany (A : Option Addr) (len cap : Nat) (X : Nat → Nat → Int) (f : Nat → Int) (w : World) (hl : len ≤ 1000) (hA : LA A len X w) :
    Calls Tryd.prog 33 #[.slice A len cap, .agg (ag i64s 5 f)] w fun e w' => e = .returned (.int .i64 (cntTo X f len)) ∧ Below w.heap.size w w' := by
  have HA := Lib.hid hA
  clear hA
  go_enter Tryd.func33, Tryd.ntmps33
  go_upto_region 3 with fail
  refine cut_world (fun W => Below w.heap.size w W ∧ Bx w.heap.size A5 i64s 5 f W ∧ LA A len X W) ⟨by (repeat' (first | (with_reducible exact Below.refl _ _) | (with_reducible assumption) | (with_reducible refine Below.alloc ?_ ?_ _) | (with_reducible refine below_grew ?_ ?_ _) | (with_reducible refine Below.setCell ?_ ?_ _) | (with_reducible refine Below.drew ?_) | (with_reducible refine below_drewN ?_ _) | omega | (simp; done) | (simp; omega))), alloc_at _ _, HA.out.keep (by (repeat' (first | (with_reducible exact Below.refl _ _) | (with_reducible assumption) | (with_reducible refine Below.alloc ?_ ?_ _) | (with_reducible refine below_grew ?_ ?_ _) | (with_reducible refine Below.setCell ?_ ?_ _) | (with_reducible refine Below.drew ?_) | (with_reducible refine below_drewN ?_ _) | omega | (simp; done) | (simp; omega))))⟩ ?_
  generalize hBd : w.heap.size = B at *
  have HBd := Lib.hid hBd
  clear hBd HA
  rintro V ⟨hV, hB, hL⟩
  have HV := Lib.hid hV
  have HB := Lib.hid hB
  have HL := Lib.hid hL
  clear hV hB hL
  go_loopw [5, 6] (fun v5 cnt wr => ∃ k : Nat, k ≤ len ∧ cnt = .int .i64 k ∧ v5 = .int .i64 (cntTo X f k) ∧ Below B w wr ∧ Bx B A5 i64s 5 f wr ∧ LA A len X wr) (fun _ cnt _ => len - (intOf cnt).toNat)
  case atStart => exact ⟨0, by omega, rfl, rfl, HV.out, HB.out, HL.out⟩
  case round =>
    clear HV HB HL
    obtain ⟨k, hk, rfl, rfl, hV, hB, hL⟩ := hrel
    have HV := Lib.hid hV
    have HB := Lib.hid hB
    have HL := Lib.hid hL
    have hk0 : (0 : Int) ≤ k := by omega
    clear hV hB hL
    by_cases hlt : k < len
    · have hlt' : (k : Int) < len := by omega
      obtain ⟨bk, off, rfl, hbk, hX⟩ := HL.out (by omega)
      have HRX := Lib.hid (range5 (hX k hlt))
      have hcl := cntTo_le X f k
      have Hn := Lib.hid (show cntTo X f (k + 1) = cntTo X f k + (if L5 (X k) = L5 f then 1 else 0) from rfl)
      have hBs := (block_facts HB.out).2.2
      generalize cntTo X f k = cc at *
      clear hX
      go_upto_region 5 with fail
      refine wp_region_inv [] (fun W => Below wr.heap.size wr W) (fun W W' => Below W.heap.size W W') 5 (by kernel_rfl) (by kernel_rfl) (by kernel_rfl) ((Below.refl _ _).drew) (fun W W' h h' => h.trans (h'.mono h.size)) (fun _ _ h => h.size) ?_
      simp only [List.take_succ_cons, List.take_zero, List.drop_succ_cons, List.drop_zero]
      refine wpInv_det (by kernel_rfl) (by kernel_rfl) ?_
      apply Exists.intro
      refine ⟨?_, ?_, ?_⟩
      · intro U W hC hH
        have hc1 := (bcell hC).1
        have hf1 := (bcell hC).2
        simp only [HypsU, predsOf, Region.binds, List.filterMap_cons, List.filterMap_nil, if_true, List.nil_append, List.cons_append, List.getD_cons_zero, List.getD_cons_succ] at hH
        simp only [fillPuts, Act.put, List.setIfInBounds_toArray, List.set_cons_zero, List.set_cons_succ, Nat.reduceAdd]
        go_wp2_with fail
        refine ⟨rfl, rfl, by (repeat' (first | (with_reducible exact Below.refl _ _) | (with_reducible assumption) | (with_reducible refine Below.alloc ?_ ?_ _) | (with_reducible refine below_grew ?_ ?_ _) | (with_reducible refine Below.setCell ?_ ?_ _) | (with_reducible refine Below.drew ?_) | (with_reducible refine below_drewN ?_ _) | omega | (simp; done) | (simp; omega))), ?_⟩
        conv => lhs; whnf
        try rfl
      · exact fun _ => rfl
      simp only [List.nil_append, List.cons_append, Nat.reduceAdd]
      refine wpInv_det (by kernel_rfl) (by kernel_rfl) ?_
      apply Exists.intro
      refine ⟨?_, ?_, ?_⟩
      · intro U W hC hH
        have hc1 := (bcell hC).1
        have hf1 := (bcell hC).2
        simp only [HypsU, predsOf, Region.binds, List.filterMap_cons, List.filterMap_nil, if_true, List.nil_append, List.cons_append, List.getD_cons_zero, List.getD_cons_succ] at hH
        simp only [fillPuts, Act.put, List.setIfInBounds_toArray, List.set_cons_zero, List.set_cons_succ, Nat.reduceAdd]
        go_wp2_with fail
        refine ⟨rfl, rfl, by (repeat' (first | (with_reducible exact Below.refl _ _) | (with_reducible assumption) | (with_reducible refine Below.alloc ?_ ?_ _) | (with_reducible refine below_grew ?_ ?_ _) | (with_reducible refine Below.setCell ?_ ?_ _) | (with_reducible refine Below.drew ?_) | (with_reducible refine below_drewN ?_ _) | omega | (simp; done) | (simp; omega))), ?_⟩
        conv => lhs; whnf
        try rfl
      · exact fun _ => rfl
      simp only [List.nil_append, List.cons_append, Nat.reduceAdd]
      refine wpInv_det (by kernel_rfl) (by kernel_rfl) ?_
      apply Exists.intro
      refine ⟨?_, ?_, ?_⟩
      · intro U W hC hH
        have hc1 := (bcell hC).1
        have hf1 := (bcell hC).2
        simp only [HypsU, predsOf, Region.binds, List.filterMap_cons, List.filterMap_nil, if_true, List.nil_append, List.cons_append, List.getD_cons_zero, List.getD_cons_succ] at hH
        simp only [fillPuts, Act.put, List.setIfInBounds_toArray, List.set_cons_zero, List.set_cons_succ, Nat.reduceAdd]
        simp only [hH]; go_wp2_with fail
        refine ⟨rfl, rfl, by (repeat' (first | (with_reducible exact Below.refl _ _) | (with_reducible assumption) | (with_reducible refine Below.alloc ?_ ?_ _) | (with_reducible refine below_grew ?_ ?_ _) | (with_reducible refine Below.setCell ?_ ?_ _) | (with_reducible refine Below.drew ?_) | (with_reducible refine below_drewN ?_ _) | omega | (simp; done) | (simp; omega))), ?_⟩
        conv => lhs; whnf
        try rfl
      · exact fun _ => rfl
      simp only [List.nil_append, List.cons_append, Nat.reduceAdd]
      refine wpInv_det (by kernel_rfl) (by kernel_rfl) ?_
      apply Exists.intro
      refine ⟨?_, ?_, ?_⟩
      · intro U W hC hH
        have hc1 := (bcell hC).1
        have hf1 := (bcell hC).2
        simp only [HypsU, predsOf, Region.binds, List.filterMap_cons, List.filterMap_nil, if_true, List.nil_append, List.cons_append, List.getD_cons_zero, List.getD_cons_succ] at hH
        simp only [fillPuts, Act.put, List.setIfInBounds_toArray, List.set_cons_zero, List.set_cons_succ, Nat.reduceAdd]
        simp only [hH]; refine load_mid_g rfl A5 _ rfl bk (off + k * 5) rfl _ _ (range_keep HRX.out hbk hC) Tryd.underlying55 rfl (by rw [Array.length_toList, ag_size]; exact info5) ?_; go_wp2_with fail
        refine ⟨rfl, rfl, by (repeat' (first | (with_reducible exact Below.refl _ _) | (with_reducible assumption) | (with_reducible refine Below.alloc ?_ ?_ _) | (with_reducible refine below_grew ?_ ?_ _) | (with_reducible refine Below.setCell ?_ ?_ _) | (with_reducible refine Below.drew ?_) | (with_reducible refine below_drewN ?_ _) | omega | (simp; done) | (simp; omega))), ?_⟩
        conv => lhs; whnf
        try rfl
      · exact fun _ => rfl
      simp only [List.nil_append, List.cons_append, Nat.reduceAdd]
      refine wpInv_det (by kernel_rfl) (by kernel_rfl) ?_
      apply Exists.intro
      refine ⟨?_, ?_, ?_⟩
      · intro U W hC hH
        have hc1 := (bcell hC).1
        have hf1 := (bcell hC).2
        simp only [HypsU, predsOf, Region.binds, List.filterMap_cons, List.filterMap_nil, if_true, List.nil_append, List.cons_append, List.getD_cons_zero, List.getD_cons_succ] at hH
        simp only [fillPuts, Act.put, List.setIfInBounds_toArray, List.set_cons_zero, List.set_cons_succ, Nat.reduceAdd]
        refine load_row_g rfl A5 _ rfl B rfl _ (ag i64s 5 f) (0, 0) _ ((hC.block B hBs).trans HB.out) Tryd.underlying55 rfl (info5_ag _) ?_; go_wp2_with fail
        refine ⟨rfl, rfl, by (repeat' (first | (with_reducible exact Below.refl _ _) | (with_reducible assumption) | (with_reducible refine Below.alloc ?_ ?_ _) | (with_reducible refine below_grew ?_ ?_ _) | (with_reducible refine Below.setCell ?_ ?_ _) | (with_reducible refine Below.drew ?_) | (with_reducible refine below_drewN ?_ _) | omega | (simp; done) | (simp; omega))), ?_⟩
        conv => lhs; whnf
        try rfl
      · exact fun _ => rfl
      simp only [List.nil_append, List.cons_append, Nat.reduceAdd]
      simp only [List.nil_append, List.cons_append, Nat.reduceAdd, fillPuts, Act.put, List.setIfInBounds_toArray, List.set_cons_zero, List.set_cons_succ]
      rintro U W hC ⟨h0, h1, h2, h3, h4, -⟩ -
      simp only [h0, h1, h2, h3, h4, Array.toArray_toList]
      have HV2 := Lib.hid (HV.out.trans (hC.mono (by omega)))
      have HB2 := Lib.hid (HB.out.keep hC)
      have HL2 := Lib.hid (HL.out.keep hC)
      clear h0 h1 h2 h3 h4 hC HRX HV HB HL hbk hBs
      by_cases e : L5 (X k) = L5 f
      · have heq := fun w => eq5_yes (X k) f (L5_inj e) w
        have Hn2 := Lib.hid (show cntTo X f (k + 1) = cc + 1 by rw [Hn.out, if_pos e])
        clear e
        go_wp2_with fail
        go_roundw
        case rel => exact ⟨k + 1, by omega, rfl, by rw [Hn2.out]; go_num, HV2.out, HB2.out, HL2.out⟩
        case measure => simp [intOf]; omega
      · obtain ⟨j, hj, hne⟩ := L5_ne e
        have heq := fun w => eq5_no (X k) f j hj hne w
        have Hn2 := Lib.hid (show cntTo X f (k + 1) = cc by rw [Hn.out, if_neg e]; rfl)
        clear e hne
        go_wp2_with fail
        go_roundw
        case rel => exact ⟨k + 1, by omega, rfl, by rw [Hn2.out], HV2.out, HB2.out, HL2.out⟩
        case measure => simp [intOf]; omega
    · have hlt' : ¬ (k : Int) < len := by omega
      obtain rfl : k = len := by omega
      clear hlt
      go_wp2_with fail
      go_ret
      exact ⟨rfl, by rw [HBd.out]; exact HV.out⟩
theorem gt_first {f g : Nat → Int} (i : Nat) (hi : i < 5) (he : ∀ j, j < i → f j = g j) (hne : ¬ f i = g i) : gtL (L5 f) (L5 g) = decide (g i < f i) := by
  rcases (show i = 0 ∨ i = 1 ∨ i = 2 ∨ i = 3 ∨ i = 4 by omega) with h | h | h | h | h <;> subst h
  · simp only [L5, gtL, if_neg hne]
  · simp only [L5, gtL, if_pos (he 0 (by omega)), if_neg hne]
  · simp only [L5, gtL, if_pos (he 0 (by omega)), if_pos (he 1 (by omega)), if_neg hne]
  · simp only [L5, gtL, if_pos (he 0 (by omega)), if_pos (he 1 (by omega)), if_pos (he 2 (by omega)), if_neg hne]
  · simp only [L5, gtL, if_pos (he 0 (by omega)), if_pos (he 1 (by omega)), if_pos (he 2 (by omega)), if_pos (he 3 (by omega)), if_neg hne]
set_option maxHeartbeats 4000000 in
set_option maxRecDepth 100000 in
theorem refMore (f g : Nat → Int) (w : World) : Calls Tryd.prog 80 #[.agg (ag i64s 5 f), .agg (ag i64s 5 g)] w fun e w' => e = .returned (.bool (gtL (L5 f) (L5 g))) ∧ Below w.heap.size w w' := by
  go_enter Tryd.func80, Tryd.ntmps80
  go_upto_region 2 with fail
  refine cut_world (fun W => Below w.heap.size w W ∧ Bx w.heap.size A5 i64s 5 f W ∧ Bx (w.heap.size + 1) A5 i64s 5 g W) ⟨by (repeat' (first | (with_reducible exact Below.refl _ _) | (with_reducible assumption) | (with_reducible refine Below.alloc ?_ ?_ _) | (with_reducible refine below_grew ?_ ?_ _) | (with_reducible refine Below.setCell ?_ ?_ _) | (with_reducible refine Below.drew ?_) | (with_reducible refine below_drewN ?_ _) | omega | (simp; done) | (simp; omega))), alloc_two _ _ _, alloc_secondOf _ _ _⟩ ?_
  generalize hBd : w.heap.size = B at *
  have HBd := Lib.hid hBd
  clear hBd
  rintro V ⟨hV, hB, hC⟩
  have HV := Lib.hid hV
  have HB := Lib.hid hB
  have HC := Lib.hid hC
  clear hV hB hC
  go_loopw [5] (fun cnt wr => ∃ k : Nat, k ≤ 5 ∧ cnt = .int .i64 k ∧ (∀ j, j < k → f j = g j) ∧ Below B w wr ∧ Bx B A5 i64s 5 f wr ∧ Bx (B + 1) A5 i64s 5 g wr) (fun cnt _ => 5 - (intOf cnt).toNat)
  case atStart => exact ⟨0, by omega, rfl, fun j hj => by omega, HV.out, HB.out, HC.out⟩
  case round =>
    clear HV HB HC
    obtain ⟨k, hk, rfl, hs, hV, hB, hC⟩ := hrel
    have HS := Lib.hid hs
    have HV := Lib.hid hV
    have HB := Lib.hid hB
    have HC := Lib.hid hC
    have hk0 : (0 : Int) ≤ k := by omega
    clear hs
    by_cases hlt : k < 5
    · have hlt' : (k : Int) < 5 := by omega
      have cf := ag_cell hB k hlt
      have cg := ag_cell hC k hlt
      have cf' : wr.cell? ⟨B, k, none⟩ = some (.int .i64 (f k)) := cf
      have cg' : wr.cell? ⟨B + 1, k, none⟩ = some (.int .i64 (g k)) := cg
      clear hV hB hC cf cg
      by_cases e : f k = g k
      · have HE := Lib.hid e
        rw [e] at cf'
        obtain ⟨gk, hgk⟩ : ∃ x, g k = x := ⟨_, rfl⟩
        rw [hgk] at cf' cg'
        clear e hgk
        go_upto_region 4 with fail
        go_quiet (fail)
        go_wp2_with fail
        go_roundw
        case rel =>
          refine ⟨k + 1, by omega, rfl, fun j hj => ?_, below_drewN HV.out _, HB.out.keep (below_drewN (Below.refl _ _) _), HC.out.keep (below_drewN (Below.refl _ _) _)⟩
          by_cases h : j = k
          · subst h; exact HE.out
          · exact HS.out j (by omega)
        case measure => simp [intOf]; omega
      · have HG := Lib.hid (gt_first k hlt HS.out e)
        have e1 : (f k != g k) = true := by simpa using e
        generalize f k = fk at *
        generalize g k = gk at *
        clear e
        go_upto_region 4 with fail
        go_quiet (fail)
        go_upto_region 5 with fail
        refine cut_world (fun Z => Below B w Z ∧ Z.cell? ⟨B, k, none⟩ = some (.int .i64 fk) ∧ Z.cell? ⟨B + 1, k, none⟩ = some (.int .i64 gk)) ⟨below_drewN HV.out _, cf', cg'⟩ ?_
        clear cf' cg' HV HB HC
        rintro Z ⟨hz, z1, z2⟩
        have HZ := Lib.hid hz
        clear hz
        by_cases hd : gk < fk
        · have HG2 := Lib.hid (HG.out.trans (decide_eq_true hd))
          go_quiet (fail)
          go_wp2_with fail
          go_ret
          exact ⟨by rw [HG2.out]; rfl, by rw [HBd.out]; exact below_drewN HZ.out _⟩
        · have HG2 := Lib.hid (HG.out.trans (decide_eq_false hd))
          go_quiet (fail)
          go_wp2_with fail
          go_ret
          exact ⟨by rw [HG2.out]; rfl, by rw [HBd.out]; exact below_drewN HZ.out _⟩
    · obtain rfl : k = 5 := by omega
      have HG := Lib.hid (show gtL (L5 f) (L5 g) = false by rw [L5_ext f g HS.out, gtL_irrefl])
      clear hlt hV hB hC
      go_wp2_with fail
      go_ret
      exact ⟨by rw [HG.out]; rfl, by rw [HBd.out]; exact HV.out⟩
theorem LM.store {w B f} {W : World} (h : LM w B f W) (g : Nat → Int) : LM w B g (W.setCells (B + 1) 0 (ag i64s 5 g).toList) := by
  have ho := only_setCells W (B + 1) 0 (ag i64s 5 g).toList
  exact ⟨ho.below h.below (by omega), (ho.block _ (by omega)).trans h.rb, cells_all h.bb (N := 5) (ag_size _ _ _) (ag_size _ _ _)⟩
theorem LA.only {A len X} {w W W' : World} {B : Nat} (h : LA A len X w) (hb : Below w.heap.size w W') : LA A len X W' := h.keep hb
set_option maxHeartbeats 8000000 in
set_option maxRecDepth 100000 in
theorem refMost (A : Option Addr) (len cap : Nat) (X : Nat → Nat → Int) (w : World) (hl : len ≤ 1000) (hA : LA A len X w) :
    Calls Tryd.prog 35 #[.slice A len cap] w fun e w' => ∃ f n, Top X len len f n ∧ e = .returned (.tuple #[.agg (ag i64s 5 f), .int .i64 n]) ∧ Below w.heap.size w w' := by
  have hma := Lib.hid (fun A cap f w hA => refMany A len cap X f w hl hA)
  have hmo := Lib.hid (fun f g w => refMore f g w)
  have HA := Lib.hid hA
  clear hA
  go_enter Tryd.func35, Tryd.ntmps35
  go_upto_region 4 with fail
  refine cut_world (fun W => LM w w.heap.size (fun _ => 0) W) ⟨by (repeat' (first | (with_reducible exact Below.refl _ _) | (with_reducible assumption) | (with_reducible refine Below.alloc ?_ ?_ _) | (with_reducible refine below_grew ?_ ?_ _) | (with_reducible refine Below.setCell ?_ ?_ _) | (with_reducible refine Below.drew ?_) | (with_reducible refine below_drewN ?_ _) | omega | (simp; done) | (simp; omega))), alloc_two _ _ _, alloc_secondOf _ _ _⟩ ?_
  rintro V hV
  obtain ⟨B, hBd⟩ : ∃ B, w.heap.size = B := ⟨_, rfl⟩
  have HBd := Lib.hid hBd
  rw [hBd] at hV
  simp only [hBd]
  have HV := Lib.hid hV
  have hAk : ∀ W f, LM w B f W → LA A len X W := fun W f h => HA.out.keep (by rw [hBd]; exact h.below)
  have HAK := Lib.hid hAk
  clear hBd hV HA hAk
  go_loopw [5, 6, 7] (fun v5 cnt v7 wr => ∃ (k : Nat) (f : Nat → Int) (n : Int), k ≤ len ∧ cnt = .int .i64 k ∧ v5 = .int .i64 n ∧ Top X len k f n ∧ LM w B f wr) (fun _ cnt _ _ => len - (intOf cnt).toNat)
  case atStart => exact ⟨0, _, 0, by omega, rfl, rfl, Top.zero X len, HV.out⟩
  case round =>
    clear HV
    obtain ⟨k, f, n, hk, rfl, rfl, ht, hV⟩ := hrel
    have HT := Lib.hid ht
    have HV := Lib.hid hV
    have hk0 : (0 : Int) ≤ k := by omega
    clear ht hV
    by_cases hlt : k < len
    · have hlt' : (k : Int) < len := by omega
      obtain ⟨bk, off, rfl, hbk, hX⟩ := HAK.out wr f HV.out (by omega)
      have HRX := Lib.hid (range5 (hX k hlt))
      clear hX
      go_wp2_with ((with_reducible refine gate_load A5 _ rfl ?_); refine load_mid_g rfl A5 _ rfl bk (off + k * 5) rfl _ _ HRX.out Tryd.underlying55 rfl (by rw [Array.length_toList, ag_size]; exact info5) ?_)
      refine (hma.out (some ⟨bk, off, none⟩) cap (X k) wr (HAK.out wr f HV.out)).mono ?_
      rintro e w1 ⟨rfl, hb1⟩
      have HW1 := Lib.hid (HV.out.keep hb1)
      have HR1 := Lib.hid (range_keep HRX.out hbk hb1)
      have hbk1 : bk < w1.heap.size := Nat.lt_of_lt_of_le hbk hb1.size
      have Htk := Lib.hid (fun hb => HT.out.take hlt hb)
      have Hps := Lib.hid (fun hb => HT.out.pass hb)
      have hbb := (block_facts HW1.out.bb).2.2
      have hcl := cntTo_le X (X k) len
      clear hb1 HV HRX hbk HT hma
      generalize cntTo X (X k) len = cc at *
      by_cases hcn : n < (cc : Int)
      · have HTN := Lib.hid (Htk.out (.inl hcn))
        go_upto_region 7 with fail
        go_quiet (fail)
        go_upto_region 9 with fail
        refine cut_world (fun Z => LM w B f Z ∧ Z.rangeAt bk (off + k * 5) (ag i64s 5 (X k)).toList) ⟨HW1.out.keep (show Below w1.heap.size w1 (w1.drewN nq) from below_drewN (Below.refl _ _) _), range_keep HR1.out hbk1 (show Below w1.heap.size w1 (w1.drewN nq) from below_drewN (Below.refl _ _) _)⟩ ?_
        clear HW1 HR1 hbb hbk1
        rintro Z ⟨hz1, hz2⟩
        have HZ1 := Lib.hid hz1
        have HZ2 := Lib.hid hz2
        clear hz1 hz2
        go_wp2_with (first | ((with_reducible refine gate_load A5 _ rfl ?_); refine load_mid_g rfl A5 _ rfl bk (off + k * 5) rfl _ _ HZ2.out Tryd.underlying55 rfl (by rw [Array.length_toList, ag_size]; exact info5) ?_) | (refine wpList_store_mid rfl A5 _ _ rfl (B + 1) 0 (ag i64s 5 (X k)) rfl rfl ?hth ?hin3 ?hon ?_; (case hth => exact there_row HZ1.out.bb _ (by rw [ag_size, ag_size]; exact Nat.le_refl _)); (case hin3 => exact info5_ag _); (case hon => exact ag_one i64s 5 _)))
        go_roundw
        case rel => exact ⟨k + 1, X k, cc, by omega, by go_num, rfl, HTN.out, HZ1.out.store _⟩
        case measure => simp [intOf]; omega
      · by_cases hce : (cc : Int) = n
        · subst hce
          have HMO := Lib.hid (fun W => hmo.out (X k) f W)
          clear hcn
          go_upto_region 7 with fail
          refine wp_region_inv [] (fun W => Below w1.heap.size w1 W) (fun W W' => Below W.heap.size W W') 15 (by kernel_rfl) (by kernel_rfl) (by kernel_rfl) ((Below.refl _ _).drew) (fun W W' h h' => h.trans (h'.mono h.size)) (fun _ _ h => h.size) ?_
          simp only [List.take_succ_cons, List.take_zero, List.drop_succ_cons, List.drop_zero]
          refine wpInv_det (by kernel_rfl) (by kernel_rfl) ?_
          apply Exists.intro
          refine ⟨?_, ?_, ?_⟩
          · intro U W hC hH
            have hc1 := (bcell hC).1
            have hf1 := (bcell hC).2
            simp only [HypsU, predsOf, Region.binds, List.filterMap_cons, List.filterMap_nil, if_true, List.nil_append, List.cons_append, List.getD_cons_zero, List.getD_cons_succ] at hH
            simp only [fillPuts, Act.put, List.setIfInBounds_toArray, List.set_cons_zero, List.set_cons_succ, Nat.reduceAdd]
            go_wp2_with fail
            refine ⟨rfl, rfl, by (repeat' (first | (with_reducible exact Below.refl _ _) | (with_reducible assumption) | (with_reducible refine Below.alloc ?_ ?_ _) | (with_reducible refine below_grew ?_ ?_ _) | (with_reducible refine Below.setCell ?_ ?_ _) | (with_reducible refine Below.drew ?_) | (with_reducible refine below_drewN ?_ _) | omega | (simp; done) | (simp; omega))), ?_⟩
            conv => lhs; whnf
            try rfl
          · exact fun _ => rfl
          simp only [List.nil_append, List.cons_append, Nat.reduceAdd]
          refine wpInv_det (by kernel_rfl) (by kernel_rfl) ?_
          apply Exists.intro
          refine ⟨?_, ?_, ?_⟩
          · intro U W hC hH
            have hc1 := (bcell hC).1
            have hf1 := (bcell hC).2
            simp only [HypsU, predsOf, Region.binds, List.filterMap_cons, List.filterMap_nil, if_true, List.nil_append, List.cons_append, List.getD_cons_zero, List.getD_cons_succ] at hH
            simp only [fillPuts, Act.put, List.setIfInBounds_toArray, List.set_cons_zero, List.set_cons_succ, Nat.reduceAdd]
            go_wp2_with fail
            refine ⟨rfl, rfl, by (repeat' (first | (with_reducible exact Below.refl _ _) | (with_reducible assumption) | (with_reducible refine Below.alloc ?_ ?_ _) | (with_reducible refine below_grew ?_ ?_ _) | (with_reducible refine Below.setCell ?_ ?_ _) | (with_reducible refine Below.drew ?_) | (with_reducible refine below_drewN ?_ _) | omega | (simp; done) | (simp; omega))), ?_⟩
            conv => lhs; whnf
            try rfl
          · exact fun _ => rfl
          simp only [List.nil_append, List.cons_append, Nat.reduceAdd]
          refine wpInv_det (by kernel_rfl) (by kernel_rfl) ?_
          apply Exists.intro
          refine ⟨?_, ?_, ?_⟩
          · intro U W hC hH
            have hc1 := (bcell hC).1
            have hf1 := (bcell hC).2
            simp only [HypsU, predsOf, Region.binds, List.filterMap_cons, List.filterMap_nil, if_true, List.nil_append, List.cons_append, List.getD_cons_zero, List.getD_cons_succ] at hH
            simp only [fillPuts, Act.put, List.setIfInBounds_toArray, List.set_cons_zero, List.set_cons_succ, Nat.reduceAdd]
            simp only [hH]; go_wp2_with fail
            refine ⟨rfl, rfl, by (repeat' (first | (with_reducible exact Below.refl _ _) | (with_reducible assumption) | (with_reducible refine Below.alloc ?_ ?_ _) | (with_reducible refine below_grew ?_ ?_ _) | (with_reducible refine Below.setCell ?_ ?_ _) | (with_reducible refine Below.drew ?_) | (with_reducible refine below_drewN ?_ _) | omega | (simp; done) | (simp; omega))), ?_⟩
            conv => lhs; whnf
            try rfl
          · exact fun _ => rfl
          simp only [List.nil_append, List.cons_append, Nat.reduceAdd]
          refine wpInv_det (by kernel_rfl) (by kernel_rfl) ?_
          apply Exists.intro
          refine ⟨?_, ?_, ?_⟩
          · intro U W hC hH
            have hc1 := (bcell hC).1
            have hf1 := (bcell hC).2
            simp only [HypsU, predsOf, Region.binds, List.filterMap_cons, List.filterMap_nil, if_true, List.nil_append, List.cons_append, List.getD_cons_zero, List.getD_cons_succ] at hH
            simp only [fillPuts, Act.put, List.setIfInBounds_toArray, List.set_cons_zero, List.set_cons_succ, Nat.reduceAdd]
            simp only [hH]; go_wp2_with fail
            refine ⟨rfl, rfl, by (repeat' (first | (with_reducible exact Below.refl _ _) | (with_reducible assumption) | (with_reducible refine Below.alloc ?_ ?_ _) | (with_reducible refine below_grew ?_ ?_ _) | (with_reducible refine Below.setCell ?_ ?_ _) | (with_reducible refine Below.drew ?_) | (with_reducible refine below_drewN ?_ _) | omega | (simp; done) | (simp; omega))), ?_⟩
            conv => lhs; whnf
            try rfl
          · exact fun _ => rfl
          simp only [List.nil_append, List.cons_append, Nat.reduceAdd]
          refine wpInv_det (by kernel_rfl) (by kernel_rfl) ?_
          apply Exists.intro
          refine ⟨?_, ?_, ?_⟩
          · intro U W hC hH
            have hc1 := (bcell hC).1
            have hf1 := (bcell hC).2
            simp only [HypsU, predsOf, Region.binds, List.filterMap_cons, List.filterMap_nil, if_true, List.nil_append, List.cons_append, List.getD_cons_zero, List.getD_cons_succ] at hH
            simp only [fillPuts, Act.put, List.setIfInBounds_toArray, List.set_cons_zero, List.set_cons_succ, Nat.reduceAdd]
            simp only [hH]; go_wp2_with fail
            refine ⟨rfl, rfl, by (repeat' (first | (with_reducible exact Below.refl _ _) | (with_reducible assumption) | (with_reducible refine Below.alloc ?_ ?_ _) | (with_reducible refine below_grew ?_ ?_ _) | (with_reducible refine Below.setCell ?_ ?_ _) | (with_reducible refine Below.drew ?_) | (with_reducible refine below_drewN ?_ _) | omega | (simp; done) | (simp; omega))), ?_⟩
            conv => lhs; whnf
            try rfl
          · exact fun _ => rfl
          simp only [List.nil_append, List.cons_append, Nat.reduceAdd]
          refine wpInv_det (by kernel_rfl) (by kernel_rfl) ?_
          apply Exists.intro
          refine ⟨?_, ?_, ?_⟩
          · intro U W hC hH
            have hc1 := (bcell hC).1
            have hf1 := (bcell hC).2
            simp only [HypsU, predsOf, Region.binds, List.filterMap_cons, List.filterMap_nil, if_true, List.nil_append, List.cons_append, List.getD_cons_zero, List.getD_cons_succ] at hH
            simp only [fillPuts, Act.put, List.setIfInBounds_toArray, List.set_cons_zero, List.set_cons_succ, Nat.reduceAdd]
            simp only [hH]; go_wp2_with fail
            refine ⟨rfl, rfl, by (repeat' (first | (with_reducible exact Below.refl _ _) | (with_reducible assumption) | (with_reducible refine Below.alloc ?_ ?_ _) | (with_reducible refine below_grew ?_ ?_ _) | (with_reducible refine Below.setCell ?_ ?_ _) | (with_reducible refine Below.drew ?_) | (with_reducible refine below_drewN ?_ _) | omega | (simp; done) | (simp; omega))), ?_⟩
            conv => lhs; whnf
            try rfl
          · exact fun _ => rfl
          simp only [List.nil_append, List.cons_append, Nat.reduceAdd]
          refine wpInv_det (by kernel_rfl) (by kernel_rfl) ?_
          apply Exists.intro
          refine ⟨?_, ?_, ?_⟩
          · intro U W hC hH
            have hc1 := (bcell hC).1
            have hf1 := (bcell hC).2
            simp only [HypsU, predsOf, Region.binds, List.filterMap_cons, List.filterMap_nil, if_true, List.nil_append, List.cons_append, List.getD_cons_zero, List.getD_cons_succ] at hH
            simp only [fillPuts, Act.put, List.setIfInBounds_toArray, List.set_cons_zero, List.set_cons_succ, Nat.reduceAdd]
            simp only [hH]; go_wp2_with fail
            refine ⟨rfl, rfl, by (repeat' (first | (with_reducible exact Below.refl _ _) | (with_reducible assumption) | (with_reducible refine Below.alloc ?_ ?_ _) | (with_reducible refine below_grew ?_ ?_ _) | (with_reducible refine Below.setCell ?_ ?_ _) | (with_reducible refine Below.drew ?_) | (with_reducible refine below_drewN ?_ _) | omega | (simp; done) | (simp; omega))), ?_⟩
            conv => lhs; whnf
            try rfl
          · exact fun _ => rfl
          simp only [List.nil_append, List.cons_append, Nat.reduceAdd]
          refine wpInv_det (by kernel_rfl) (by kernel_rfl) ?_
          apply Exists.intro
          refine ⟨?_, ?_, ?_⟩
          · intro U W hC hH
            have hc1 := (bcell hC).1
            have hf1 := (bcell hC).2
            simp only [HypsU, predsOf, Region.binds, List.filterMap_cons, List.filterMap_nil, if_true, List.nil_append, List.cons_append, List.getD_cons_zero, List.getD_cons_succ] at hH
            simp only [fillPuts, Act.put, List.setIfInBounds_toArray, List.set_cons_zero, List.set_cons_succ, Nat.reduceAdd]
            simp only [hH]; go_wp2_with fail
            refine ⟨rfl, rfl, by (repeat' (first | (with_reducible exact Below.refl _ _) | (with_reducible assumption) | (with_reducible refine Below.alloc ?_ ?_ _) | (with_reducible refine below_grew ?_ ?_ _) | (with_reducible refine Below.setCell ?_ ?_ _) | (with_reducible refine Below.drew ?_) | (with_reducible refine below_drewN ?_ _) | omega | (simp; done) | (simp; omega))), ?_⟩
            conv => lhs; whnf
            try rfl
          · exact fun _ => rfl
          simp only [List.nil_append, List.cons_append, Nat.reduceAdd]
          refine wpInv_det (by kernel_rfl) (by kernel_rfl) ?_
          apply Exists.intro
          refine ⟨?_, ?_, ?_⟩
          · intro U W hC hH
            have hc1 := (bcell hC).1
            have hf1 := (bcell hC).2
            simp only [HypsU, predsOf, Region.binds, List.filterMap_cons, List.filterMap_nil, if_true, List.nil_append, List.cons_append, List.getD_cons_zero, List.getD_cons_succ] at hH
            simp only [fillPuts, Act.put, List.setIfInBounds_toArray, List.set_cons_zero, List.set_cons_succ, Nat.reduceAdd]
            simp only [hH]; go_wp2_with fail
            refine ⟨rfl, rfl, by (repeat' (first | (with_reducible exact Below.refl _ _) | (with_reducible assumption) | (with_reducible refine Below.alloc ?_ ?_ _) | (with_reducible refine below_grew ?_ ?_ _) | (with_reducible refine Below.setCell ?_ ?_ _) | (with_reducible refine Below.drew ?_) | (with_reducible refine below_drewN ?_ _) | omega | (simp; done) | (simp; omega))), ?_⟩
            conv => lhs; whnf
            try rfl
          · exact fun _ => rfl
          simp only [List.nil_append, List.cons_append, Nat.reduceAdd]
          refine wpInv_det (by kernel_rfl) (by kernel_rfl) ?_
          apply Exists.intro
          refine ⟨?_, ?_, ?_⟩
          · intro U W hC hH
            have hc1 := (bcell hC).1
            have hf1 := (bcell hC).2
            simp only [HypsU, predsOf, Region.binds, List.filterMap_cons, List.filterMap_nil, if_true, List.nil_append, List.cons_append, List.getD_cons_zero, List.getD_cons_succ] at hH
            simp only [fillPuts, Act.put, List.setIfInBounds_toArray, List.set_cons_zero, List.set_cons_succ, Nat.reduceAdd]
            simp only [hH]; go_wp2_with fail
            refine ⟨rfl, rfl, by (repeat' (first | (with_reducible exact Below.refl _ _) | (with_reducible assumption) | (with_reducible refine Below.alloc ?_ ?_ _) | (with_reducible refine below_grew ?_ ?_ _) | (with_reducible refine Below.setCell ?_ ?_ _) | (with_reducible refine Below.drew ?_) | (with_reducible refine below_drewN ?_ _) | omega | (simp; done) | (simp; omega))), ?_⟩
            conv => lhs; whnf
            try rfl
          · exact fun _ => rfl
          simp only [List.nil_append, List.cons_append, Nat.reduceAdd]
          refine wpInv_det (by kernel_rfl) (by kernel_rfl) ?_
          apply Exists.intro
          refine ⟨?_, ?_, ?_⟩
          · intro U W hC hH
            have hc1 := (bcell hC).1
            have hf1 := (bcell hC).2
            simp only [HypsU, predsOf, Region.binds, List.filterMap_cons, List.filterMap_nil, if_true, List.nil_append, List.cons_append, List.getD_cons_zero, List.getD_cons_succ] at hH
            simp only [fillPuts, Act.put, List.setIfInBounds_toArray, List.set_cons_zero, List.set_cons_succ, Nat.reduceAdd]
            simp only [hH]; go_wp2_with fail
            refine ⟨rfl, rfl, by (repeat' (first | (with_reducible exact Below.refl _ _) | (with_reducible assumption) | (with_reducible refine Below.alloc ?_ ?_ _) | (with_reducible refine below_grew ?_ ?_ _) | (with_reducible refine Below.setCell ?_ ?_ _) | (with_reducible refine Below.drew ?_) | (with_reducible refine below_drewN ?_ _) | omega | (simp; done) | (simp; omega))), ?_⟩
            conv => lhs; whnf
            try rfl
          · exact fun _ => rfl
          simp only [List.nil_append, List.cons_append, Nat.reduceAdd]
          refine wpInv_det (by kernel_rfl) (by kernel_rfl) ?_
          apply Exists.intro
          refine ⟨?_, ?_, ?_⟩
          · intro U W hC hH
            have hc1 := (bcell hC).1
            have hf1 := (bcell hC).2
            simp only [HypsU, predsOf, Region.binds, List.filterMap_cons, List.filterMap_nil, if_true, List.nil_append, List.cons_append, List.getD_cons_zero, List.getD_cons_succ] at hH
            simp only [fillPuts, Act.put, List.setIfInBounds_toArray, List.set_cons_zero, List.set_cons_succ, Nat.reduceAdd]
            simp only [hH]; go_wp2_with ((with_reducible refine gate_load A5 _ rfl ?_); refine load_mid_g rfl A5 _ rfl bk (off + k * 5) rfl _ _ (range_keep HR1.out hbk1 hC) Tryd.underlying55 rfl (by rw [Array.length_toList, ag_size]; exact info5) ?_)
            refine ⟨rfl, rfl, by (repeat' (first | (with_reducible exact Below.refl _ _) | (with_reducible assumption) | (with_reducible refine Below.alloc ?_ ?_ _) | (with_reducible refine below_grew ?_ ?_ _) | (with_reducible refine Below.setCell ?_ ?_ _) | (with_reducible refine Below.drew ?_) | (with_reducible refine below_drewN ?_ _) | omega | (simp; done) | (simp; omega))), ?_⟩
            conv => lhs; whnf
            try rfl
          · exact fun _ => rfl
          simp only [List.nil_append, List.cons_append, Nat.reduceAdd]
          refine wpInv_det (by kernel_rfl) (by kernel_rfl) ?_
          apply Exists.intro
          refine ⟨?_, ?_, ?_⟩
          · intro U W hC hH
            have hc1 := (bcell hC).1
            have hf1 := (bcell hC).2
            simp only [HypsU, predsOf, Region.binds, List.filterMap_cons, List.filterMap_nil, if_true, List.nil_append, List.cons_append, List.getD_cons_zero, List.getD_cons_succ] at hH
            simp only [fillPuts, Act.put, List.setIfInBounds_toArray, List.set_cons_zero, List.set_cons_succ, Nat.reduceAdd]
            simp only [hH]; go_wp2_with ((with_reducible refine gate_load A5 _ rfl ?_); refine load_row_g rfl A5 _ rfl (B + 1) rfl _ (ag i64s 5 f) (0, 0) _ ((hC.block (B + 1) hbb).trans HW1.out.bb) Tryd.underlying55 rfl (info5_ag _) ?_)
            refine ⟨rfl, rfl, by (repeat' (first | (with_reducible exact Below.refl _ _) | (with_reducible assumption) | (with_reducible refine Below.alloc ?_ ?_ _) | (with_reducible refine below_grew ?_ ?_ _) | (with_reducible refine Below.setCell ?_ ?_ _) | (with_reducible refine Below.drew ?_) | (with_reducible refine below_drewN ?_ _) | omega | (simp; done) | (simp; omega))), ?_⟩
            conv => lhs; whnf
            try rfl
          · exact fun _ => rfl
          simp only [List.nil_append, List.cons_append, Nat.reduceAdd]
          refine wpInv_det (by kernel_rfl) (by kernel_rfl) ?_
          apply Exists.intro
          refine ⟨?_, ?_, ?_⟩
          · intro U W hC hH
            have hc1 := (bcell hC).1
            have hf1 := (bcell hC).2
            simp only [HypsU, predsOf, Region.binds, List.filterMap_cons, List.filterMap_nil, if_true, List.nil_append, List.cons_append, List.getD_cons_zero, List.getD_cons_succ] at hH
            simp only [fillPuts, Act.put, List.setIfInBounds_toArray, List.set_cons_zero, List.set_cons_succ, Nat.reduceAdd]
            simp only [hH, Array.toArray_toList]; go_wp2_with fail; refine (HMO.out _).mono ?_; rintro e w' ⟨rfl, hb1⟩; obtain ⟨x1, rfl⟩ := below_as_grew hb1; clear hb1; go_wp2_with fail
            refine ⟨rfl, rfl, by (repeat' (first | (with_reducible exact Below.refl _ _) | (with_reducible assumption) | (with_reducible refine Below.alloc ?_ ?_ _) | (with_reducible refine below_grew ?_ ?_ _) | (with_reducible refine Below.setCell ?_ ?_ _) | (with_reducible refine Below.drew ?_) | (with_reducible refine below_drewN ?_ _) | omega | (simp; done) | (simp; omega))), ?_⟩
            conv => lhs; whnf
            try rfl
          · exact fun _ => rfl
          simp only [List.nil_append, List.cons_append, Nat.reduceAdd]
          refine wpInv_det (by kernel_rfl) (by kernel_rfl) ?_
          apply Exists.intro
          refine ⟨?_, ?_, ?_⟩
          · intro U W hC hH
            have hc1 := (bcell hC).1
            have hf1 := (bcell hC).2
            simp only [HypsU, predsOf, Region.binds, List.filterMap_cons, List.filterMap_nil, if_true, List.nil_append, List.cons_append, List.getD_cons_zero, List.getD_cons_succ] at hH
            simp only [fillPuts, Act.put, List.setIfInBounds_toArray, List.set_cons_zero, List.set_cons_succ, Nat.reduceAdd]
            simp only [hH]; go_wp2_with fail
            refine ⟨rfl, rfl, by (repeat' (first | (with_reducible exact Below.refl _ _) | (with_reducible assumption) | (with_reducible refine Below.alloc ?_ ?_ _) | (with_reducible refine below_grew ?_ ?_ _) | (with_reducible refine Below.setCell ?_ ?_ _) | (with_reducible refine Below.drew ?_) | (with_reducible refine below_drewN ?_ _) | omega | (simp; done) | (simp; omega))), ?_⟩
            conv => lhs; whnf
            try rfl
          · exact fun _ => rfl
          simp only [List.nil_append, List.cons_append, Nat.reduceAdd]
          simp only [List.nil_append, List.cons_append, Nat.reduceAdd, fillPuts, Act.put, List.setIfInBounds_toArray, List.set_cons_zero, List.set_cons_succ]
          rintro U W hC ⟨h0, h1, h2, h3, h4, h5, h6, h7, h8, h9, h10, h11, h12, h13, h14, -⟩ -
          simp only [h0, h1, h2, h3, h4, h5, h6, h7, h8, h9, h10, h11, h12, h13, h14]
          have HZ1 := Lib.hid (HW1.out.keep hC)
          have HZ2 := Lib.hid (range_keep HR1.out hbk1 hC)
          clear h0 h1 h2 h3 h4 h5 h6 h7 h8 h9 h10 h11 h12 h13 h14 hC HMO HW1 HR1 hbb hbk1
          cases hgt : gtL (L5 (X k)) (L5 f)
          · have HTN := Lib.hid (Hps.out (by rintro (h | ⟨-, h⟩); (omega); (rw [hgt] at h; cases h)))
            go_wp2_with fail
            go_roundw
            case rel => exact ⟨k + 1, f, cc, by omega, by go_num, rfl, HTN.out, HZ1.out⟩
            case measure => simp [intOf]; omega
          · have HTN := Lib.hid (Htk.out (.inr ⟨rfl, hgt⟩))
            go_wp2_with (first | ((with_reducible refine gate_load A5 _ rfl ?_); refine load_mid_g rfl A5 _ rfl bk (off + k * 5) rfl _ _ HZ2.out Tryd.underlying55 rfl (by rw [Array.length_toList, ag_size]; exact info5) ?_) | (refine wpList_store_mid rfl A5 _ _ rfl (B + 1) 0 (ag i64s 5 (X k)) rfl rfl ?hth ?hin3 ?hon ?_; (case hth => exact there_row HZ1.out.bb _ (by rw [ag_size, ag_size]; exact Nat.le_refl _)); (case hin3 => exact info5_ag _); (case hon => exact ag_one i64s 5 _)))
            go_roundw
            case rel => exact ⟨k + 1, X k, cc, by omega, by go_num, rfl, HTN.out, HZ1.out.store _⟩
            case measure => simp [intOf]; omega
        · have hlt2 : (cc : Int) < n := by omega
          have HTN := Lib.hid (Hps.out (by unfold better; omega))
          go_upto_region 7 with fail
          go_quiet (fail)
          go_wp2_with fail
          go_roundw
          case rel => exact ⟨k + 1, f, n, by omega, by go_num, rfl, HTN.out, HW1.out.keep (show Below w1.heap.size w1 (w1.drewN nq) from below_drewN (Below.refl _ _) _)⟩
          case measure => simp [intOf]; omega
    · have hlt' : ¬ (k : Int) < len := by omega
      obtain rfl : k = len := by omega
      clear hlt
      go_wp2_with (first | ((with_reducible refine gate_load A5 _ rfl ?_); refine load_row_g rfl A5 _ rfl (B + 1) rfl _ (ag i64s 5 f) (0, 0) _ HV.out.bb Tryd.underlying55 rfl ?hin ?_; (case hin => exact info5_ag _)) | (refine wpList_store_mid rfl A5 _ _ rfl B 0 (ag i64s 5 f) rfl rfl ?hth ?hin3 ?hon ?_; (case hth => exact there_row HV.out.rb _ (by rw [ag_size, ag_size]; exact Nat.le_refl _)); (case hin3 => exact info5_ag _); (case hon => exact ag_one i64s 5 _)))
      have q1 := cells_all HV.out.rb (N := 5) (ag_size _ _ _) (cs := ag i64s 5 f) (ag_size _ _ _)
      have hfinb := (only_setCells wr B 0 (ag i64s 5 f).toList).below HV.out.below (Nat.le_refl _)
      refine bodyPost_ret (v := .tuple #[.agg (ag i64s 5 f), .int .i64 n]) ?_ rfl ⟨f, n, HT.out, rfl, by rw [HBd.out]; exact hfinb⟩
      exact results_row_tmp rfl _ _ B _ _ _ _ _ rfl rfl q1 Tryd.underlying55 rfl (info5_ag _)
end Go.Proofs.YtcibajleknhklaaDoor
end

section
namespace Go.Proofs.YtcibajleknhklaaDoor
open Go.RowKit Go.BigFrame Go.WideMaps Go.WideElems Go.ChangeMaps Go.Vec Go.Cost
set_option linter.unusedSimpArgs false
set_option linter.unusedVariables false
/-- The example's three results. -/
def exX : Nat → Nat → Int := fun i j => if j = 0 then (if i = 1 then 2 else 1) else 0
theorem ex_wf (i : Nat) : wf5 (exX i) := fun j _ => by
  unfold exX
  split
  · split <;> decide
  · decide
theorem ex_best (f : Nat → Int) (n : Int) (h : Best (addTo (.map []) exX 3) (fun _ => false) f n) : L5 f = L5 (exX 0) ∧ n = 2 := by
  have hi := inLog_iff exX 3 (by omega) (fun i _ => ex_wf i)
  have c0 : cntTo exX (exX 0) 3 = 2 := by decide
  have h0 : InLog (addTo (.map []) exX 3) (exX 0) 2 := (hi (exX 0) 2).2 ⟨ex_wf 0, by rw [c0]; rfl, by omega⟩
  have ht := h.top _ _ h0 rfl
  unfold better at ht
  have hn2 : ¬ n < 2 := fun h => ht (.inl h)
  rcases h.src with ⟨hz, _⟩ | hin
  · omega
  · obtain ⟨hf, hm, hp⟩ := (hi f n).1 hin
    have e : cntTo exX f 3 = 0 + (if L5 (exX 0) = L5 f then 1 else 0) + (if L5 (exX 1) = L5 f then 1 else 0) + (if L5 (exX 2) = L5 f then 1 else 0) := rfl
    have e2 : L5 (exX 2) = L5 (exX 0) := by decide
    have e1 : ¬ L5 (exX 1) = L5 (exX 0) := by decide
    rw [e2] at e
    by_cases q : L5 (exX 0) = L5 f
    · refine ⟨q.symm, ?_⟩
      rw [if_pos q, if_neg (by rw [← q]; exact e1)] at e
      omega
    · rw [if_neg q] at e
      split at e <;> omega
theorem eqC (cs : Array Value) (f : Nat → Int) (h : cs = ag i64s 5 f) (w : World) : (Op.equalIn 10000 A5 (.agg cs) (.agg cs)).run Tryd.prog w = .ok true w := by
  subst h; exact eq5_yes f f (fun _ _ => rfl) w
set_option maxHeartbeats 4000000 in
set_option maxRecDepth 100000 in
theorem awake15 (w : World) (hW : WidthW w) : Calls Tryd.prog 27 #[] w fun e w' => e = .returned (.bool true) ∧ Below w.heap.size w w' := by
  have HW := Lib.hid hW
  have hmm := @run_makeMap Tryd.prog
  have had := Lib.hid (fun b n0 D len cap A X w hL hn hwf hA => logAdd b n0 D len cap A X w hL hn hwf hA)
  have hmo := Lib.hid (fun b n0 D w hL => logMost b n0 D w hL)
  have hfr := Lib.hid (fun w => fresh_any w)
  have hal := Lib.hid (fun hb sh w h hW => shareAlloc hb sh 0 1 7 4 w h hW)
  clear hW
  go_enter Tryd.func27, Tryd.ntmps27
  go_wp2_with fail
  refine (had.out w.heap.size 0 (.map []) 3 3 (some ⟨w.heap.size + 1, 0, none⟩) exX _ ((World.ownsMap_made w Tryd.prog A5 (plainElem Tryd.prog TI)).alloc _) (by omega) (fun i _ => ex_wf i) (fun _ => ⟨w.heap.size + 1, 0, rfl, by simp, by omega, fun i hi j hj => ?_⟩)).mono ?_
  · have hc := (block_facts (alloc_secondOf w (.map #[] 0) (.cells #[.int .i64 1, .int .i64 0, .int .i64 0, .int .i64 0, .int .i64 0, .int .i64 2, .int .i64 0, .int .i64 0, .int .i64 0, .int .i64 0, .int .i64 1, .int .i64 0, .int .i64 0, .int .i64 0, .int .i64 0] A5 (0, 0)))).1 (0 + i * 5 + j)
    rw [hc]
    rcases (show i = 0 ∨ i = 1 ∨ i = 2 by omega) with h | h | h <;> subst h <;> rcases (show j = 0 ∨ j = 1 ∨ j = 2 ∨ j = 3 ∨ j = 4 by omega) with h | h | h | h | h <;> subst h <;> rfl
  rintro e w1 ⟨rfl, hL, hg⟩
  have HL := Lib.hid hL
  have hb1 : Below w.heap.size w w1 := ⟨hg.os, hg.tape, hg.output, Nat.le_trans (by simp; omega) hg.size, fun k hk => (hg.block k (by simp; omega) (by intro e; simp at e; omega)).trans (((alloc_old _ _ k (by simp; omega)).trans (alloc_old _ _ k hk)))⟩
  have HB1 := Lib.hid hb1
  clear hL hg hb1 had
  go_wp2_with fail
  refine (hmo.out _ _ _ w1 HL.out).mono ?_
  rintro e w2 ⟨f, n, hbest, rfl, hb2⟩
  obtain ⟨hf, rfl⟩ := ex_best f n hbest
  have hfa : ag i64s 5 f = #[.int .i64 1, .int .i64 0, .int .i64 0, .int .i64 0, .int .i64 0] := by
    rw [ag_ext i64s 5 f (exX 0) (L5_inj hf)]
    rfl
  rw [hfa]
  have HB2 := Lib.hid (HB1.out.trans (hb2.mono HB1.out.size))
  clear hbest hb2 hf hfa hmo HL
  have heq1 := fun w => eqC #[.int .i64 1, .int .i64 0, .int .i64 0, .int .i64 0, .int .i64 0] (exX 0) rfl w
  go_wp2_with fail
  refine (hfr.out _).mono ?_
  rintro e w3 ⟨hb, sh, rfl, hS, hb3⟩
  have HS := Lib.hid hS
  have HB3 := Lib.hid (HB2.out.trans (Below.mono (B := w2.heap.size) ((Below.alloc (Below.refl _ _) (Nat.le_refl _) _).trans (hb3.mono (by simp))) HB2.out.size))
  clear hS hb3 hfr heq1
  have ea : aggOf (allocF 0 1 7 4) = .agg #[.int .i64 0, .int .i64 0, .int .i64 1, .int .i64 0, .int .i64 0] := by
    have : allocF 0 1 7 4 = [0, 0, 1, 0, 0] := by decide +kernel
    rw [this]; rfl
  have heq2 := fun w => eqC #[.int .i64 0, .int .i64 0, .int .i64 1, .int .i64 0, .int .i64 0] (fun j => if j = 2 then 1 else 0) rfl w
  have HE := Lib.hid ea
  clear ea
  go_wp2_with fail
  refine (hal.out hb sh w3 HS.out (HW.out.below' HB3.out)).mono ?_
  rintro e w4 ⟨rfl, hb4⟩
  have HB4 := Lib.hid (HB3.out.trans (hb4.mono HB3.out.size))
  clear hb4
  rw [HE.out]
  go_wp2_with fail
  go_ret
  exact ⟨rfl, HB4.out⟩
end Go.Proofs.YtcibajleknhklaaDoor
end

section
namespace Go.Proofs.YtcibajleknhklaaDoor
open Go.RowKit Go.BigFrame Go.WideMaps Go.WideElems Go.ChangeMaps
set_option linter.unusedSimpArgs false
set_option linter.unusedVariables false
theorem log_look {b n : Nat} {X : Nat → Nat → Int} {N : Nat} {w : World} (h : LogAt b n (addTo (.map []) X N) w) (hN : N ≤ 1000) (hw : ∀ i, i < N → wf5 (X i)) (f : Nat → Int) (hf : wf5 f) :
    (Instr.lookup TL (.map (some b)) (.agg (ag i64s 5 f)) false).run Tryd.prog w = .ok (.int .i64 (cntTo X f N)) w := by
  obtain ⟨c', hr, ha, _⟩ := h.lookup_int keyed5 underTL Tryd.underlying3 (zeroTI w) (key5 f hf)
  have hc : (addTo (.map []) X N).atKey (k5 f) (.lit (.int .i64 0)) = .lit (.int .i64 (cntTo X f N)) := by
    rw [at_add X f hf N hN hw]
    by_cases h0 : cntTo X f N = 0
    · rw [if_pos h0, h0]; rfl
    · rw [if_neg h0]
  rw [hc] at ha
  simp only [DataW.lit.injEq, Lit.int.injEq, true_and] at ha
  rw [hr, ha]
theorem vis_le (X : Nat → Nat → Int) (left : Lit → Bool) : ∀ n, visN X left n ≤ n
  | 0 => Nat.le_refl 0
  | n + 1 => by rw [visN]; have := vis_le X left n; split <;> omega
theorem vis_start (X : Nat → Nat → Int) (N : Nat) (hN : N ≤ 1000) (hw : ∀ i, i < N → wf5 (X i)) (left : Lit → Bool) (hl : ∀ kl, left kl = false → ∀ z, (addTo (.map []) X N).atKey kl z = z) : visN X left N = 0 :=
  vis_none X left N fun i hi => by
    cases h : left (k5 (X i))
    · have h1 := hl _ h .nil
      rw [at_add X (X i) (hw i hi) N hN hw, if_neg (by have := cnt_pos X N i hi; omega)] at h1
      cases h1
    · rfl
/-- The call's frame: the log, and the list. -/
structure LG (w : World) (b : Nat) (A : Option Addr) (len : Nat) (X : Nat → Nat → Int) (W : World) : Prop where
  below : Below w.heap.size w W
  log : LogAt b len (addTo (.map []) X len) W
  list : LA A len X W
theorem LG.keep {w b A len X} {W W' : World} (h : LG w b A len X W) (hb : Below W.heap.size W W') : LG w b A len X W' :=
  ⟨h.below.trans (hb.mono h.below.size), h.log.kept (below_grown hb none) (by simp), h.list.keep hb⟩
theorem below_own {w W W' : World} {b : Nat} (h : Below w.heap.size w W) (hg : W.grownBy W' (some b)) (hb : w.heap.size ≤ b) : Below w.heap.size w W' :=
  h.trans ⟨hg.os, hg.tape, hg.output, hg.size, fun k hk => hg.block k (Nat.lt_of_lt_of_le hk h.size) (by intro e; simp at e; omega)⟩
theorem LA.own {A len X} {w W : World} {b : Nat} (h : LA A len X w) (hb : Below w.heap.size w W) (hle : w.heap.size ≤ b) (K : Nat) (hK : K ≤ len) : 0 < K → ∃ bk off, A = some ⟨bk, off, none⟩ ∧ bk < W.heap.size ∧ bk ≠ b ∧ ∀ i, i < K → ∀ j, j < 5 → W.cell? ⟨bk, off + i * 5 + j, none⟩ = some (.int .i64 (X i j)) := fun hp => by
  obtain ⟨bk, off, rfl, hbk, hc⟩ := h (by omega)
  exact ⟨bk, off, rfl, Nat.lt_of_lt_of_le hbk hb.size, by omega, fun i hi j hj => (hb.cell (p := ⟨bk, off + i * 5 + j, none⟩) hbk).trans (hc i (by omega) j hj)⟩
theorem LG.keepG {w b A len X} {W W' : World} {r : Nat} (h : LG w b A len X W) (hA : LA A len X w) (hg : W.grownBy W' (some r)) (hr : w.heap.size ≤ r) (hne : b ≠ r) : LG w b A len X W' :=
  ⟨below_own h.below hg hr, h.log.kept hg (by intro e; simp at e; omega), hA.keep (below_own h.below hg hr)⟩
theorem addr_map (bk off n : Nat) : Option.map (fun x : Addr => x.add n) (some ⟨bk, off, none⟩) = some ⟨bk, off + n, none⟩ := by
  simp [Addr.add]
theorem LA.rest {A len X} {w W : World} {b : Nat} (h : LA A len X w) (hb : Below w.heap.size w W) (hle : w.heap.size ≤ b) (K : Nat) (A2 : Option Addr) (hA2 : len - K = 0 ∨ A2 = A.map (fun x => x.add (K * 5))) : 0 < len - K → ∃ bk off, A2 = some ⟨bk, off, none⟩ ∧ bk < W.heap.size ∧ bk ≠ b ∧ ∀ i, i < len - K → ∀ j, j < 5 → W.cell? ⟨bk, off + i * 5 + j, none⟩ = some (.int .i64 (X (K + i) j)) := fun hp => by
  rcases hA2 with h0 | rfl
  · omega
  obtain ⟨bk, off, rfl, hbk, hc⟩ := h (by omega)
  refine ⟨bk, off + K * 5, addr_map bk off (K * 5), Nat.lt_of_lt_of_le hbk hb.size, by omega, fun i hi j hj => ?_⟩
  have h1 := (hb.cell (p := ⟨bk, off + (K + i) * 5 + j, none⟩) hbk).trans (hc (K + i) (by omega) j hj)
  rwa [show off + (K + i) * 5 + j = off + K * 5 + i * 5 + j by omega] at h1
set_option maxHeartbeats 8000000 in
set_option maxRecDepth 100000 in
theorem logs_any (len cap : Nat) (A : Option Addr) (X : Nat → Nat → Int) (at_ : Int) (w : World) (hW : WidthW w) (hat : 0 ≤ at_ ∧ at_ ≤ 255) (hlc : len ≤ cap) (K : Nat) (hK : (K : Int) = min at_ len) (hck : ¬ cap = K) (hA : LA A len X w) (hwf : ∀ i, i < len → wf5 (X i)) :
    Calls Tryd.prog 9 #[.slice A len cap, .int .u8 at_] w fun e w' => e = .returned (.bool true) ∧ Below w.heap.size w w' := by
  have haw := Lib.hid (fun w hW => awake15 w hW)
  have HW := Lib.hid hW
  have HA := Lib.hid hA
  have HWF := Lib.hid hwf
  have hmm := @run_makeMap Tryd.prog
  have had := Lib.hid (fun b n0 D len cap A X w hL hn hwf hA => logAdd b n0 D len cap A X w hL hn hwf hA)
  have hmo := Lib.hid (fun b n0 D w hL => logMost b n0 D w hL)
  have hma := Lib.hid (fun A len cap X f w hl hA => refMany A len cap X f w hl hA)
  have hrm := Lib.hid (fun A len cap X w hl hA => refMost A len cap X w hl hA)
  obtain ⟨hat0, hat1⟩ := hat
  clear hW hA hwf
  go_enter Tryd.func9, Tryd.ntmps9
  go_wp2_with fail
  refine (haw.out _ HW.out).mono ?_
  rintro e w1 ⟨rfl, hb1⟩
  have HB1 := Lib.hid hb1
  have hws := hb1.size
  clear hb1 haw
  by_cases h60 : 60 < len
  · have h60' : (60 : Int) < (len : Int) := by omega
    go_wp2_with fail
    go_ret
    exact ⟨rfl, HB1.out⟩
  have h60' : ¬ ((60 : Int) < (len : Int)) := by omega
  have hl60 : len ≤ 60 := by omega
  clear h60
  have hKl : K ≤ len := by omega
  have hKc : (K : Int) ≤ cap := by omega
  have hKl' : (K : Int) ≤ len := by omega
  have hK0 : (0 : Int) ≤ K := by omega
  go_upto_region 7 with fail
  rw [← hK]
  refine cut_world (fun W => Below w.heap.size w W ∧ LogAt w1.heap.size 0 (.map []) W) ⟨HB1.out.trans (Below.mono (B := w1.heap.size) (by (repeat' (first | (with_reducible exact Below.refl _ _) | (with_reducible assumption) | (with_reducible refine Below.alloc ?_ ?_ _) | (with_reducible refine below_grew ?_ ?_ _) | (with_reducible refine Below.setCell ?_ ?_ _) | (with_reducible refine Below.drew ?_) | (with_reducible refine below_drewN ?_ _) | omega | (simp; done) | (simp; omega)))) hws), World.ownsMap_made w1 Tryd.prog A5 (plainElem Tryd.prog TI)⟩ ?_
  clear hK HB1
  generalize w1.heap.size = b at *
  rintro V ⟨hV, hL⟩
  have HV := Lib.hid hV
  have HL := Lib.hid hL
  clear hV hL
  go_wp2_with fail
  refine (had.out b 0 (.map []) K cap A X V HL.out (by omega) (fun i hi => HWF.out i (by omega)) (HA.out.own HV.out hws K hKl)).mono ?_
  rintro e w2 ⟨rfl, hL, hg⟩
  have HV2 := Lib.hid (below_own HV.out hg hws)
  have HL2 := Lib.hid hL
  clear hL hg HV HL
  go_wp2_with fail
  refine (had.out b (0 + K) _ (len - K) _ _ (fun i => X (K + i)) w2 HL2.out (by omega) (fun i hi => HWF.out (K + i) (by omega)) (HA.out.rest HV2.out hws K _ (by first | exact .inr rfl | exact .inl (by omega)))).mono ?_
  rintro e w3 ⟨rfl, hL, hg⟩
  rw [addTo_app, show K + (len - K) = len by omega, show 0 + K + (len - K) = len by omega] at hL
  have hlg : LG w b A len X w3 := ⟨below_own HV2.out hg hws, hL, HA.out.keep (below_own HV2.out hg hws)⟩
  have HG := Lib.hid hlg
  clear hL hg HV2 HL2 hlg had
  try generalize Option.map (fun x : Addr => x.add (K * 5)) A = A2
  go_wp2_with fail
  go_loopw [9, 39] (fun v9 cnt wr => ∃ k : Nat, k ≤ len ∧ cnt = .int .i64 k ∧ LG w b A len X wr) (fun _ cnt _ => len - (intOf cnt).toNat)
  case atStart => exact ⟨0, by omega, rfl, HG.out⟩
  case round =>
    clear HG
    obtain ⟨k, hk, rfl, hlg⟩ := hrel
    have HG := Lib.hid hlg
    have hk0 : (0 : Int) ≤ k := by omega
    clear hlg
    by_cases hlt : k < len
    · have hlt' : (k : Int) < len := by omega
      obtain ⟨bk, off, rfl, hbk, hX⟩ := HG.out.list (by omega)
      have HRX := Lib.hid (range5 (hX k hlt))
      have HWK := Lib.hid (HWF.out k hlt)
      clear hX
      go_upto_region 13 with (first | ((with_reducible refine gate_load A5 _ rfl ?_); refine load_mid_g rfl A5 _ rfl bk (off + k * 5) rfl _ _ HRX.out Tryd.underlying55 rfl ?hi ?_; (case hi => rw [Array.length_toList, ag_size]; exact info5)) | (refine wpList_store_mid rfl A5 _ _ rfl wr.heap.size 0 (ag i64s 5 (X k)) rfl rfl ?hth ?hin3 ?hon ?_; (case hth => exact there_row (alloc_at _ _) _ (by rw [ag_size]; exact Nat.le_refl _)); (case hin3 => exact info5_ag _); (case hon => exact ag_one i64s 5 _)))
      obtain ⟨q1, q2⟩ := k5_new wr (X k)
      refine cut_world (fun W => LG w b (some ⟨bk, off, none⟩) len X W ∧ Bx wr.heap.size A5 i64s 5 (X k) W) ⟨HG.out.keep q1, q2⟩ ?_
      clear q1 q2 HG HRX hbk hlt
      generalize wr.heap.size = kb at *
      rintro V ⟨hlg, hkb⟩
      have HG := Lib.hid hlg
      have HKB := Lib.hid hkb
      have hkbs := (block_facts hkb).2.2
      have HLK := Lib.hid (fun W (hC : Below V.heap.size V W) => log_look (HG.out.keep hC).log (by omega) HWF.out (X k) HWK.out)
      have HMA := Lib.hid (fun W (hC : Below V.heap.size V W) => hma.out (some ⟨bk, off, none⟩) len cap X (X k) W (by omega) (HG.out.keep hC).list)
      clear hlg hkb
      refine wp_region_inv [] (fun W => Below V.heap.size V W) (fun W W' => Below W.heap.size W W') 6 (by kernel_rfl) (by kernel_rfl) (by kernel_rfl) ((Below.refl _ _).drew) (fun W W' h h' => h.trans (h'.mono h.size)) (fun _ _ h => h.size) ?_
      simp only [List.take_succ_cons, List.take_zero, List.drop_succ_cons, List.drop_zero]
      refine wpInv_det (by kernel_rfl) (by kernel_rfl) ?_
      apply Exists.intro
      refine ⟨?_, ?_, ?_⟩
      · intro U W hC hH
        have hc1 := (bcell hC).1
        have hf1 := (bcell hC).2
        simp only [HypsU, predsOf, Region.binds, List.filterMap_cons, List.filterMap_nil, if_true, List.nil_append, List.cons_append, List.getD_cons_zero, List.getD_cons_succ] at hH
        simp only [fillPuts, Act.put, List.setIfInBounds_toArray, List.set_cons_zero, List.set_cons_succ, Nat.reduceAdd]
        go_wp2_with fail
        refine ⟨rfl, rfl, by (repeat' (first | (with_reducible exact Below.refl _ _) | (with_reducible assumption) | (with_reducible refine Below.alloc ?_ ?_ _) | (with_reducible refine below_grew ?_ ?_ _) | (with_reducible refine Below.setCell ?_ ?_ _) | (with_reducible refine Below.drew ?_) | (with_reducible refine below_drewN ?_ _) | omega | (simp; done) | (simp; omega))), ?_⟩
        conv => lhs; whnf
        try rfl
      · exact fun _ => rfl
      simp only [List.nil_append, List.cons_append, Nat.reduceAdd]
      refine wpInv_det (by kernel_rfl) (by kernel_rfl) ?_
      apply Exists.intro
      refine ⟨?_, ?_, ?_⟩
      · intro U W hC hH
        have hc1 := (bcell hC).1
        have hf1 := (bcell hC).2
        simp only [HypsU, predsOf, Region.binds, List.filterMap_cons, List.filterMap_nil, if_true, List.nil_append, List.cons_append, List.getD_cons_zero, List.getD_cons_succ] at hH
        simp only [fillPuts, Act.put, List.setIfInBounds_toArray, List.set_cons_zero, List.set_cons_succ, Nat.reduceAdd]
        refine load_row_g rfl A5 _ rfl kb rfl _ (ag i64s 5 (X k)) (0, 0) _ ((hC.block kb hkbs).trans HKB.out) Tryd.underlying55 rfl (info5_ag _) ?_; go_wp2_with fail
        refine ⟨rfl, rfl, by (repeat' (first | (with_reducible exact Below.refl _ _) | (with_reducible assumption) | (with_reducible refine Below.alloc ?_ ?_ _) | (with_reducible refine below_grew ?_ ?_ _) | (with_reducible refine Below.setCell ?_ ?_ _) | (with_reducible refine Below.drew ?_) | (with_reducible refine below_drewN ?_ _) | omega | (simp; done) | (simp; omega))), ?_⟩
        conv => lhs; whnf
        try rfl
      · exact fun _ => rfl
      simp only [List.nil_append, List.cons_append, Nat.reduceAdd]
      refine wpInv_det (by kernel_rfl) (by kernel_rfl) ?_
      apply Exists.intro
      refine ⟨?_, ?_, ?_⟩
      · intro U W hC hH
        have hc1 := (bcell hC).1
        have hf1 := (bcell hC).2
        simp only [HypsU, predsOf, Region.binds, List.filterMap_cons, List.filterMap_nil, if_true, List.nil_append, List.cons_append, List.getD_cons_zero, List.getD_cons_succ] at hH
        simp only [fillPuts, Act.put, List.setIfInBounds_toArray, List.set_cons_zero, List.set_cons_succ, Nat.reduceAdd]
        have hlk := HLK.out W hC; simp only [hH]; go_wp2_with fail
        refine ⟨rfl, rfl, by (repeat' (first | (with_reducible exact Below.refl _ _) | (with_reducible assumption) | (with_reducible refine Below.alloc ?_ ?_ _) | (with_reducible refine below_grew ?_ ?_ _) | (with_reducible refine Below.setCell ?_ ?_ _) | (with_reducible refine Below.drew ?_) | (with_reducible refine below_drewN ?_ _) | omega | (simp; done) | (simp; omega))), ?_⟩
        conv => lhs; whnf
        try rfl
      · exact fun _ => rfl
      simp only [List.nil_append, List.cons_append, Nat.reduceAdd]
      refine wpInv_det (by kernel_rfl) (by kernel_rfl) ?_
      apply Exists.intro
      refine ⟨?_, ?_, ?_⟩
      · intro U W hC hH
        have hc1 := (bcell hC).1
        have hf1 := (bcell hC).2
        simp only [HypsU, predsOf, Region.binds, List.filterMap_cons, List.filterMap_nil, if_true, List.nil_append, List.cons_append, List.getD_cons_zero, List.getD_cons_succ] at hH
        simp only [fillPuts, Act.put, List.setIfInBounds_toArray, List.set_cons_zero, List.set_cons_succ, Nat.reduceAdd]
        go_wp2_with fail
        refine ⟨rfl, rfl, by (repeat' (first | (with_reducible exact Below.refl _ _) | (with_reducible assumption) | (with_reducible refine Below.alloc ?_ ?_ _) | (with_reducible refine below_grew ?_ ?_ _) | (with_reducible refine Below.setCell ?_ ?_ _) | (with_reducible refine Below.drew ?_) | (with_reducible refine below_drewN ?_ _) | omega | (simp; done) | (simp; omega))), ?_⟩
        conv => lhs; whnf
        try rfl
      · exact fun _ => rfl
      simp only [List.nil_append, List.cons_append, Nat.reduceAdd]
      refine wpInv_det (by kernel_rfl) (by kernel_rfl) ?_
      apply Exists.intro
      refine ⟨?_, ?_, ?_⟩
      · intro U W hC hH
        have hc1 := (bcell hC).1
        have hf1 := (bcell hC).2
        simp only [HypsU, predsOf, Region.binds, List.filterMap_cons, List.filterMap_nil, if_true, List.nil_append, List.cons_append, List.getD_cons_zero, List.getD_cons_succ] at hH
        simp only [fillPuts, Act.put, List.setIfInBounds_toArray, List.set_cons_zero, List.set_cons_succ, Nat.reduceAdd]
        refine load_row_g rfl A5 _ rfl kb rfl _ (ag i64s 5 (X k)) (0, 0) _ ((hC.block kb hkbs).trans HKB.out) Tryd.underlying55 rfl (info5_ag _) ?_; go_wp2_with fail
        refine ⟨rfl, rfl, by (repeat' (first | (with_reducible exact Below.refl _ _) | (with_reducible assumption) | (with_reducible refine Below.alloc ?_ ?_ _) | (with_reducible refine below_grew ?_ ?_ _) | (with_reducible refine Below.setCell ?_ ?_ _) | (with_reducible refine Below.drew ?_) | (with_reducible refine below_drewN ?_ _) | omega | (simp; done) | (simp; omega))), ?_⟩
        conv => lhs; whnf
        try rfl
      · exact fun _ => rfl
      simp only [List.nil_append, List.cons_append, Nat.reduceAdd]
      refine wpInv_det (by kernel_rfl) (by kernel_rfl) ?_
      apply Exists.intro
      refine ⟨?_, ?_, ?_⟩
      · intro U W hC hH
        have hc1 := (bcell hC).1
        have hf1 := (bcell hC).2
        simp only [HypsU, predsOf, Region.binds, List.filterMap_cons, List.filterMap_nil, if_true, List.nil_append, List.cons_append, List.getD_cons_zero, List.getD_cons_succ] at hH
        simp only [fillPuts, Act.put, List.setIfInBounds_toArray, List.set_cons_zero, List.set_cons_succ, Nat.reduceAdd]
        simp only [hH]; go_wp2_with fail; refine (HMA.out W hC).mono ?_; rintro e w' ⟨rfl, hb1⟩; obtain ⟨x1, rfl⟩ := below_as_grew hb1; clear hb1; go_wp2_with fail
        refine ⟨rfl, rfl, by (repeat' (first | (with_reducible exact Below.refl _ _) | (with_reducible assumption) | (with_reducible refine Below.alloc ?_ ?_ _) | (with_reducible refine below_grew ?_ ?_ _) | (with_reducible refine Below.setCell ?_ ?_ _) | (with_reducible refine Below.drew ?_) | (with_reducible refine below_drewN ?_ _) | omega | (simp; done) | (simp; omega))), ?_⟩
        conv => lhs; whnf
        try rfl
      · exact fun _ => rfl
      simp only [List.nil_append, List.cons_append, Nat.reduceAdd]
      simp only [List.nil_append, List.cons_append, Nat.reduceAdd, fillPuts, Act.put, List.setIfInBounds_toArray, List.set_cons_zero, List.set_cons_succ]
      rintro U W hC ⟨h0, h1, h2, h3, h4, h5, -⟩ -
      simp only [h0, h1, h2, h3, h4, h5]
      have HG2 := Lib.hid (HG.out.keep hC)
      clear h0 h1 h2 h3 h4 h5 hC HLK HMA HG HKB hkbs
      generalize cntTo X (X k) len = cc at *
      go_wp2_with fail
      go_roundw
      case rel =>
        exact ⟨k + 1, by omega, rfl, HG2.out⟩
      case measure => simp [intOf]; omega
    · have hlt' : ¬ (k : Int) < len := by omega
      obtain rfl : k = len := by omega
      clear hlt
      go_upto_region 17 with (at_range; refine wpList_range_own _ rfl _ TL rfl A5 TI keyed5 underTL _ b k _ rfl HG.out.log ?_; intro w0 hrg0 hg0 hs0; have HRG := Lib.hid hrg0; have HG0 := Lib.hid hg0; have HS0 := Lib.hid hs0; clear hrg0 hg0 hs0)
      have hlm := HG.out.keep (W' := w0) ⟨HG0.out.os, HG0.out.tape, HG0.out.output, HG0.out.size, fun k hk => HG0.out.block k hk (by simp)⟩
      have hbr : b < wr.heap.size := HG.out.log.lt
      have hwr := HG.out.below.size
      obtain ⟨r, hr⟩ : ∃ r, wr.heap.size = r := ⟨_, rfl⟩
      rw [hr] at HRG hbr hwr
      try simp only [hr]
      have HLM := Lib.hid hlm
      clear hr hlm HG HG0 HS0 hlt'
      have hinv : ∀ (v : Value) (y : DataW Unit × List MemPlace), plainElem Tryd.prog TI v = some y → ∃ c : Int, v = .int .i64 c := fun v y h => by
        obtain ⟨c, h1, _⟩ := plainElem_int_inv Tryd.underlying3 h
        exact ⟨c, h1⟩
      have hinvK : ∀ (key : Value) (kl : Lit), keyOf Tryd.prog A5 key = some kl → ∃ x : Nat → Int, key = .agg (ag i64s 5 x) := fun key kl h => by
        obtain ⟨x, h1, _⟩ := key5_inv h
        exact ⟨x, h1⟩
      have HINV := Lib.hid hinv
      have HINVK := Lib.hid hinvK
      clear hinv hinvK
      try go_frame
      go_loopw [7, 11, 53] (fun v7 v11 v53 wr => ∃ (left : Lit → Bool) (cnt : Nat), v7 = .int .i64 (visN X left k) ∧ wr.ranges Tryd.prog A5 (plainElem Tryd.prog TI) b r k (addTo (.map []) X k) left cnt ∧ LG w b A k X wr ∧ r < wr.heap.size) (fun _ _ _ wr => wr.rangeLeft b r)
      case atStart =>
        refine ⟨_, _, ?_, HRG.out, HLM.out, HRG.out.lt⟩
        rw [vis_start X k (by omega) HWF.out _ (fun kl h z => Go.Maps.atKey_of_not_has h z)]
        rfl
      case round =>
        clear HRG HLM
        obtain ⟨left, cnt, rfl, hrg, hlm, hrs⟩ := hrel
        have HRG := Lib.hid hrg
        have HLM := Lib.hid hlm
        clear hrg hlm
        go_upto_region 18 with (at_next; refine wpList_next_ranges _ rfl _ rfl A5 keyed5 (plainElem Tryd.prog TI) (fun x : Nat → Int => .agg (ag i64s 5 x)) (fun c : Int => .int .i64 c) HINVK.out HINV.out b r k (addTo (.map []) X k) left cnt rfl HRG.out ?_ ?_)
        · intro hc0 hl
          rw [vis_all X left hl k]
          clear hc0 hl HRG
          go_wp2_with fail
          refine (hmo.out b k _ wr HLM.out.log).mono ?_
          rintro e w2 ⟨f, n, hbest, rfl, hb2⟩
          have HT := Lib.hid (best_top (by omega) HWF.out hbest)
          have HG2 := Lib.hid (HLM.out.keep hb2)
          clear hbest hb2 HLM hmo hrs
          go_upto_region 21 with (refine wpList_store_mid rfl A5 _ _ rfl w2.heap.size 0 (ag i64s 5 f) rfl rfl ?hth ?hin3 ?hon ?_; (case hth => exact there_row (alloc_at _ _) _ (by rw [ag_size]; exact Nat.le_refl _)); (case hin3 => exact info5_ag _); (case hon => exact ag_one i64s 5 _))
          obtain ⟨q1, q2⟩ := k5_new w2 f
          refine cut_world (fun W => LG w b A k X W ∧ Bx w2.heap.size A5 i64s 5 f W) ⟨HG2.out.keep q1, q2⟩ ?_
          clear q1 q2 HG2
          generalize w2.heap.size = p1 at *
          rintro V1 ⟨hg1, hp1⟩
          have HG3 := Lib.hid hg1
          have HP1 := Lib.hid hp1
          clear hg1 hp1
          go_wp2_with fail
          refine (hrm.out A k cap X V1 (by omega) HG3.out.list).mono ?_
          rintro e w3 ⟨g, m, htop, rfl, hb3⟩
          obtain ⟨hfg, hnm⟩ := top_one HT.out htop
          subst hnm
          have HG4 := Lib.hid (HG3.out.keep hb3)
          have HP2 := Lib.hid (HP1.out.keep hb3)
          have heq := fun w => eq5_yes f g (L5_inj hfg) w
          clear htop hb3 HG3 HP1 hrm HT hfg
          go_upto_region 22 with (refine wpList_store_mid rfl A5 _ _ rfl w3.heap.size 0 (ag i64s 5 g) rfl rfl ?hth ?hin3 ?hon ?_; (case hth => exact there_row (alloc_at _ _) _ (by rw [ag_size]; exact Nat.le_refl _)); (case hin3 => exact info5_ag _); (case hon => exact ag_one i64s 5 _))
          obtain ⟨q1, q2⟩ := k5_new w3 g
          refine cut_world (fun W => LG w b A k X W ∧ Bx p1 A5 i64s 5 f W ∧ Bx w3.heap.size A5 i64s 5 g W) ⟨HG4.out.keep q1, HP2.out.keep q1, q2⟩ ?_
          clear q1 q2 HG4 HP2
          generalize w3.heap.size = p2 at *
          rintro V2 ⟨hg2, hp1, hp2⟩
          have HG5 := Lib.hid hg2
          have HP3 := Lib.hid hp1
          have HP4 := Lib.hid hp2
          clear hg2 hp1 hp2
          go_wp2_with ((with_reducible refine gate_load A5 _ rfl ?_); first | (refine load_row_g rfl A5 _ rfl p1 rfl _ (ag i64s 5 f) (0, 0) _ HP3.out Tryd.underlying55 rfl ?hin ?_; (case hin => exact info5_ag _)) | (refine load_row_g rfl A5 _ rfl p2 rfl _ (ag i64s 5 g) (0, 0) _ HP4.out Tryd.underlying55 rfl ?hin ?_; (case hin => exact info5_ag _)))
          go_ret
          exact ⟨rfl, HG5.out.below⟩
        · rintro x c kl a ps w1 cnt1 hkey hlk hv hat hrg1 hlt hgr hsz hen
          obtain ⟨hx, rfl⟩ := wf_of_key hkey
          obtain ⟨c', hc', ha, -⟩ := plainElem_int_inv Tryd.underlying3 hv
          simp only [Value.int.injEq, true_and] at hc'
          subst hc'
          simp only [Prod.mk.injEq] at ha
          have hin : InLog (addTo (.map []) X k) x c := ⟨hx, fun z => by rw [hat z, ha.1]⟩
          obtain ⟨-, hcc, -⟩ := (inLog_iff X k (by omega) HWF.out x c).1 hin
          subst hcc
          have hvs := vis_step X left x hx hlk k HWF.out
          have hv1 := vis_le X (fun z => left z && !z.sameKey (k5 x)) k
          have HG1 := Lib.hid (HLM.out.keepG HA.out hgr (by omega) (by omega))
          have HRG1 := Lib.hid hrg1
          have HLT := Lib.hid hlt
          have hrw := hrg1.lt
          have Hvs := Lib.hid hvs
          clear hkey hlk hv hat ha hin hrg1 hlt hgr hsz HLM hx hrs
          generalize visN X left k = sm at *
          generalize cntTo X x k = cc at *
          have hsb : sm + cc ≤ 60 := by omega
          clear hvs hv1
          go_wp2_with fail
          go_roundw
          case rel => exact ⟨_, cnt1, by rw [Hvs.out]; go_num, HRG1.out, HG1.out, hrw⟩
          case measure => rw [HRG1.out.left_eq, HRG.out.left_eq]; exact HLT.out
set_option maxHeartbeats 8000000 in
set_option maxRecDepth 100000 in
theorem logs_full (len : Nat) (A : Option Addr) (X : Nat → Nat → Int) (at_ : Int) (w : World) (hW : WidthW w) (hat : 0 ≤ at_ ∧ at_ ≤ 255) (hK : (len : Int) = min at_ len) (hA : LA A len X w) (hwf : ∀ i, i < len → wf5 (X i)) :
    Calls Tryd.prog 9 #[.slice A len len, .int .u8 at_] w fun e w' => e = .returned (.bool true) ∧ Below w.heap.size w w' := by
  have haw := Lib.hid (fun w hW => awake15 w hW)
  have HW := Lib.hid hW
  have HA := Lib.hid hA
  have HWF := Lib.hid hwf
  have hmm := @run_makeMap Tryd.prog
  have had := Lib.hid (fun b n0 D len cap A X w hL hn hwf hA => logAdd b n0 D len cap A X w hL hn hwf hA)
  have hmo := Lib.hid (fun b n0 D w hL => logMost b n0 D w hL)
  have hma := Lib.hid (fun A len cap X f w hl hA => refMany A len cap X f w hl hA)
  have hrm := Lib.hid (fun A len cap X w hl hA => refMost A len cap X w hl hA)
  obtain ⟨hat0, hat1⟩ := hat
  have HK := Lib.hid hK
  clear hW hA hwf hK
  go_enter Tryd.func9, Tryd.ntmps9
  go_wp2_with fail
  refine (haw.out _ HW.out).mono ?_
  rintro e w1 ⟨rfl, hb1⟩
  have HB1 := Lib.hid hb1
  have hws := hb1.size
  clear hb1 haw
  by_cases h60 : 60 < len
  · have h60' : (60 : Int) < (len : Int) := by omega
    go_wp2_with fail
    go_ret
    exact ⟨rfl, HB1.out⟩
  have h60' : ¬ ((60 : Int) < (len : Int)) := by omega
  have hl60 : len ≤ 60 := by omega
  clear h60
  have hK0 : (0 : Int) ≤ len := by omega
  go_upto_region 7 with fail
  rw [← HK.out]
  refine cut_world (fun W => Below w.heap.size w W ∧ LogAt w1.heap.size 0 (.map []) W) ⟨HB1.out.trans (Below.mono (B := w1.heap.size) (by (repeat' (first | (with_reducible exact Below.refl _ _) | (with_reducible assumption) | (with_reducible refine Below.alloc ?_ ?_ _) | (with_reducible refine below_grew ?_ ?_ _) | (with_reducible refine Below.setCell ?_ ?_ _) | (with_reducible refine Below.drew ?_) | (with_reducible refine below_drewN ?_ _) | omega | (simp; done) | (simp; omega)))) hws), World.ownsMap_made w1 Tryd.prog A5 (plainElem Tryd.prog TI)⟩ ?_
  clear HK HB1
  generalize w1.heap.size = b at *
  rintro V ⟨hV, hL⟩
  have HV := Lib.hid hV
  have HL := Lib.hid hL
  clear hV hL
  go_wp2_with fail
  refine (had.out b 0 (.map []) len len A X V HL.out (by omega) (fun i hi => HWF.out i (by omega)) (HA.out.own HV.out hws len (Nat.le_refl _))).mono ?_
  rintro e w2 ⟨rfl, hL, hg⟩
  have HV2 := Lib.hid (below_own HV.out hg hws)
  have HL2 := Lib.hid hL
  clear hL hg HV HL
  go_wp2_with fail
  refine (had.out b (0 + len) _ 0 _ _ (fun i => X (len + i)) w2 HL2.out (by omega) (fun i hi => absurd hi (by omega)) (fun h => absurd h (by omega))).mono ?_
  rintro e w3 ⟨rfl, hL, hg⟩
  simp only [addTo_app, Nat.add_zero, Nat.zero_add] at hL
  have hlg : LG w b A len X w3 := ⟨below_own HV2.out hg hws, hL, HA.out.keep (below_own HV2.out hg hws)⟩
  have HG := Lib.hid hlg
  clear hL hg HV2 HL2 hlg had
  go_wp2_with fail
  go_loopw [9, 39] (fun v9 cnt wr => ∃ k : Nat, k ≤ len ∧ cnt = .int .i64 k ∧ LG w b A len X wr) (fun _ cnt _ => len - (intOf cnt).toNat)
  case atStart => exact ⟨0, by omega, rfl, HG.out⟩
  case round =>
    clear HG
    obtain ⟨k, hk, rfl, hlg⟩ := hrel
    have HG := Lib.hid hlg
    have hk0 : (0 : Int) ≤ k := by omega
    clear hlg
    by_cases hlt : k < len
    · have hlt' : (k : Int) < len := by omega
      obtain ⟨bk, off, rfl, hbk, hX⟩ := HG.out.list (by omega)
      have HRX := Lib.hid (range5 (hX k hlt))
      have HWK := Lib.hid (HWF.out k hlt)
      clear hX
      go_upto_region 13 with (first | ((with_reducible refine gate_load A5 _ rfl ?_); refine load_mid_g rfl A5 _ rfl bk (off + k * 5) rfl _ _ HRX.out Tryd.underlying55 rfl ?hi ?_; (case hi => rw [Array.length_toList, ag_size]; exact info5)) | (refine wpList_store_mid rfl A5 _ _ rfl wr.heap.size 0 (ag i64s 5 (X k)) rfl rfl ?hth ?hin3 ?hon ?_; (case hth => exact there_row (alloc_at _ _) _ (by rw [ag_size]; exact Nat.le_refl _)); (case hin3 => exact info5_ag _); (case hon => exact ag_one i64s 5 _)))
      obtain ⟨q1, q2⟩ := k5_new wr (X k)
      refine cut_world (fun W => LG w b (some ⟨bk, off, none⟩) len X W ∧ Bx wr.heap.size A5 i64s 5 (X k) W) ⟨HG.out.keep q1, q2⟩ ?_
      clear q1 q2 HG HRX hbk hlt
      generalize wr.heap.size = kb at *
      rintro V ⟨hlg, hkb⟩
      have HG := Lib.hid hlg
      have HKB := Lib.hid hkb
      have hkbs := (block_facts hkb).2.2
      have HLK := Lib.hid (fun W (hC : Below V.heap.size V W) => log_look (HG.out.keep hC).log (by omega) HWF.out (X k) HWK.out)
      have HMA := Lib.hid (fun W (hC : Below V.heap.size V W) => hma.out (some ⟨bk, off, none⟩) len len X (X k) W (by omega) (HG.out.keep hC).list)
      clear hlg hkb
      refine wp_region_inv [] (fun W => Below V.heap.size V W) (fun W W' => Below W.heap.size W W') 6 (by kernel_rfl) (by kernel_rfl) (by kernel_rfl) ((Below.refl _ _).drew) (fun W W' h h' => h.trans (h'.mono h.size)) (fun _ _ h => h.size) ?_
      simp only [List.take_succ_cons, List.take_zero, List.drop_succ_cons, List.drop_zero]
      refine wpInv_det (by kernel_rfl) (by kernel_rfl) ?_
      apply Exists.intro
      refine ⟨?_, ?_, ?_⟩
      · intro U W hC hH
        have hc1 := (bcell hC).1
        have hf1 := (bcell hC).2
        simp only [HypsU, predsOf, Region.binds, List.filterMap_cons, List.filterMap_nil, if_true, List.nil_append, List.cons_append, List.getD_cons_zero, List.getD_cons_succ] at hH
        simp only [fillPuts, Act.put, List.setIfInBounds_toArray, List.set_cons_zero, List.set_cons_succ, Nat.reduceAdd]
        go_wp2_with fail
        refine ⟨rfl, rfl, by (repeat' (first | (with_reducible exact Below.refl _ _) | (with_reducible assumption) | (with_reducible refine Below.alloc ?_ ?_ _) | (with_reducible refine below_grew ?_ ?_ _) | (with_reducible refine Below.setCell ?_ ?_ _) | (with_reducible refine Below.drew ?_) | (with_reducible refine below_drewN ?_ _) | omega | (simp; done) | (simp; omega))), ?_⟩
        conv => lhs; whnf
        try rfl
      · exact fun _ => rfl
      simp only [List.nil_append, List.cons_append, Nat.reduceAdd]
      refine wpInv_det (by kernel_rfl) (by kernel_rfl) ?_
      apply Exists.intro
      refine ⟨?_, ?_, ?_⟩
      · intro U W hC hH
        have hc1 := (bcell hC).1
        have hf1 := (bcell hC).2
        simp only [HypsU, predsOf, Region.binds, List.filterMap_cons, List.filterMap_nil, if_true, List.nil_append, List.cons_append, List.getD_cons_zero, List.getD_cons_succ] at hH
        simp only [fillPuts, Act.put, List.setIfInBounds_toArray, List.set_cons_zero, List.set_cons_succ, Nat.reduceAdd]
        refine load_row_g rfl A5 _ rfl kb rfl _ (ag i64s 5 (X k)) (0, 0) _ ((hC.block kb hkbs).trans HKB.out) Tryd.underlying55 rfl (info5_ag _) ?_; go_wp2_with fail
        refine ⟨rfl, rfl, by (repeat' (first | (with_reducible exact Below.refl _ _) | (with_reducible assumption) | (with_reducible refine Below.alloc ?_ ?_ _) | (with_reducible refine below_grew ?_ ?_ _) | (with_reducible refine Below.setCell ?_ ?_ _) | (with_reducible refine Below.drew ?_) | (with_reducible refine below_drewN ?_ _) | omega | (simp; done) | (simp; omega))), ?_⟩
        conv => lhs; whnf
        try rfl
      · exact fun _ => rfl
      simp only [List.nil_append, List.cons_append, Nat.reduceAdd]
      refine wpInv_det (by kernel_rfl) (by kernel_rfl) ?_
      apply Exists.intro
      refine ⟨?_, ?_, ?_⟩
      · intro U W hC hH
        have hc1 := (bcell hC).1
        have hf1 := (bcell hC).2
        simp only [HypsU, predsOf, Region.binds, List.filterMap_cons, List.filterMap_nil, if_true, List.nil_append, List.cons_append, List.getD_cons_zero, List.getD_cons_succ] at hH
        simp only [fillPuts, Act.put, List.setIfInBounds_toArray, List.set_cons_zero, List.set_cons_succ, Nat.reduceAdd]
        have hlk := HLK.out W hC; simp only [hH]; go_wp2_with fail
        refine ⟨rfl, rfl, by (repeat' (first | (with_reducible exact Below.refl _ _) | (with_reducible assumption) | (with_reducible refine Below.alloc ?_ ?_ _) | (with_reducible refine below_grew ?_ ?_ _) | (with_reducible refine Below.setCell ?_ ?_ _) | (with_reducible refine Below.drew ?_) | (with_reducible refine below_drewN ?_ _) | omega | (simp; done) | (simp; omega))), ?_⟩
        conv => lhs; whnf
        try rfl
      · exact fun _ => rfl
      simp only [List.nil_append, List.cons_append, Nat.reduceAdd]
      refine wpInv_det (by kernel_rfl) (by kernel_rfl) ?_
      apply Exists.intro
      refine ⟨?_, ?_, ?_⟩
      · intro U W hC hH
        have hc1 := (bcell hC).1
        have hf1 := (bcell hC).2
        simp only [HypsU, predsOf, Region.binds, List.filterMap_cons, List.filterMap_nil, if_true, List.nil_append, List.cons_append, List.getD_cons_zero, List.getD_cons_succ] at hH
        simp only [fillPuts, Act.put, List.setIfInBounds_toArray, List.set_cons_zero, List.set_cons_succ, Nat.reduceAdd]
        go_wp2_with fail
        refine ⟨rfl, rfl, by (repeat' (first | (with_reducible exact Below.refl _ _) | (with_reducible assumption) | (with_reducible refine Below.alloc ?_ ?_ _) | (with_reducible refine below_grew ?_ ?_ _) | (with_reducible refine Below.setCell ?_ ?_ _) | (with_reducible refine Below.drew ?_) | (with_reducible refine below_drewN ?_ _) | omega | (simp; done) | (simp; omega))), ?_⟩
        conv => lhs; whnf
        try rfl
      · exact fun _ => rfl
      simp only [List.nil_append, List.cons_append, Nat.reduceAdd]
      refine wpInv_det (by kernel_rfl) (by kernel_rfl) ?_
      apply Exists.intro
      refine ⟨?_, ?_, ?_⟩
      · intro U W hC hH
        have hc1 := (bcell hC).1
        have hf1 := (bcell hC).2
        simp only [HypsU, predsOf, Region.binds, List.filterMap_cons, List.filterMap_nil, if_true, List.nil_append, List.cons_append, List.getD_cons_zero, List.getD_cons_succ] at hH
        simp only [fillPuts, Act.put, List.setIfInBounds_toArray, List.set_cons_zero, List.set_cons_succ, Nat.reduceAdd]
        refine load_row_g rfl A5 _ rfl kb rfl _ (ag i64s 5 (X k)) (0, 0) _ ((hC.block kb hkbs).trans HKB.out) Tryd.underlying55 rfl (info5_ag _) ?_; go_wp2_with fail
        refine ⟨rfl, rfl, by (repeat' (first | (with_reducible exact Below.refl _ _) | (with_reducible assumption) | (with_reducible refine Below.alloc ?_ ?_ _) | (with_reducible refine below_grew ?_ ?_ _) | (with_reducible refine Below.setCell ?_ ?_ _) | (with_reducible refine Below.drew ?_) | (with_reducible refine below_drewN ?_ _) | omega | (simp; done) | (simp; omega))), ?_⟩
        conv => lhs; whnf
        try rfl
      · exact fun _ => rfl
      simp only [List.nil_append, List.cons_append, Nat.reduceAdd]
      refine wpInv_det (by kernel_rfl) (by kernel_rfl) ?_
      apply Exists.intro
      refine ⟨?_, ?_, ?_⟩
      · intro U W hC hH
        have hc1 := (bcell hC).1
        have hf1 := (bcell hC).2
        simp only [HypsU, predsOf, Region.binds, List.filterMap_cons, List.filterMap_nil, if_true, List.nil_append, List.cons_append, List.getD_cons_zero, List.getD_cons_succ] at hH
        simp only [fillPuts, Act.put, List.setIfInBounds_toArray, List.set_cons_zero, List.set_cons_succ, Nat.reduceAdd]
        simp only [hH]; go_wp2_with fail; refine (HMA.out W hC).mono ?_; rintro e w' ⟨rfl, hb1⟩; obtain ⟨x1, rfl⟩ := below_as_grew hb1; clear hb1; go_wp2_with fail
        refine ⟨rfl, rfl, by (repeat' (first | (with_reducible exact Below.refl _ _) | (with_reducible assumption) | (with_reducible refine Below.alloc ?_ ?_ _) | (with_reducible refine below_grew ?_ ?_ _) | (with_reducible refine Below.setCell ?_ ?_ _) | (with_reducible refine Below.drew ?_) | (with_reducible refine below_drewN ?_ _) | omega | (simp; done) | (simp; omega))), ?_⟩
        conv => lhs; whnf
        try rfl
      · exact fun _ => rfl
      simp only [List.nil_append, List.cons_append, Nat.reduceAdd]
      simp only [List.nil_append, List.cons_append, Nat.reduceAdd, fillPuts, Act.put, List.setIfInBounds_toArray, List.set_cons_zero, List.set_cons_succ]
      rintro U W hC ⟨h0, h1, h2, h3, h4, h5, -⟩ -
      simp only [h0, h1, h2, h3, h4, h5]
      have HG2 := Lib.hid (HG.out.keep hC)
      clear h0 h1 h2 h3 h4 h5 hC HLK HMA HG HKB hkbs
      generalize cntTo X (X k) len = cc at *
      go_wp2_with fail
      go_roundw
      case rel =>
        exact ⟨k + 1, by omega, rfl, HG2.out⟩
      case measure => simp [intOf]; omega
    · have hlt' : ¬ (k : Int) < len := by omega
      obtain rfl : k = len := by omega
      clear hlt
      go_upto_region 17 with (at_range; refine wpList_range_own _ rfl _ TL rfl A5 TI keyed5 underTL _ b k _ rfl HG.out.log ?_; intro w0 hrg0 hg0 hs0; have HRG := Lib.hid hrg0; have HG0 := Lib.hid hg0; have HS0 := Lib.hid hs0; clear hrg0 hg0 hs0)
      have hlm := HG.out.keep (W' := w0) ⟨HG0.out.os, HG0.out.tape, HG0.out.output, HG0.out.size, fun k hk => HG0.out.block k hk (by simp)⟩
      have hbr : b < wr.heap.size := HG.out.log.lt
      have hwr := HG.out.below.size
      obtain ⟨r, hr⟩ : ∃ r, wr.heap.size = r := ⟨_, rfl⟩
      rw [hr] at HRG hbr hwr
      try simp only [hr]
      have HLM := Lib.hid hlm
      clear hr hlm HG HG0 HS0 hlt'
      have hinv : ∀ (v : Value) (y : DataW Unit × List MemPlace), plainElem Tryd.prog TI v = some y → ∃ c : Int, v = .int .i64 c := fun v y h => by
        obtain ⟨c, h1, _⟩ := plainElem_int_inv Tryd.underlying3 h
        exact ⟨c, h1⟩
      have hinvK : ∀ (key : Value) (kl : Lit), keyOf Tryd.prog A5 key = some kl → ∃ x : Nat → Int, key = .agg (ag i64s 5 x) := fun key kl h => by
        obtain ⟨x, h1, _⟩ := key5_inv h
        exact ⟨x, h1⟩
      have HINV := Lib.hid hinv
      have HINVK := Lib.hid hinvK
      clear hinv hinvK
      try go_frame
      go_loopw [7, 11, 53] (fun v7 v11 v53 wr => ∃ (left : Lit → Bool) (cnt : Nat), v7 = .int .i64 (visN X left k) ∧ wr.ranges Tryd.prog A5 (plainElem Tryd.prog TI) b r k (addTo (.map []) X k) left cnt ∧ LG w b A k X wr ∧ r < wr.heap.size) (fun _ _ _ wr => wr.rangeLeft b r)
      case atStart =>
        refine ⟨_, _, ?_, HRG.out, HLM.out, HRG.out.lt⟩
        rw [vis_start X k (by omega) HWF.out _ (fun kl h z => Go.Maps.atKey_of_not_has h z)]
        rfl
      case round =>
        clear HRG HLM
        obtain ⟨left, cnt, rfl, hrg, hlm, hrs⟩ := hrel
        have HRG := Lib.hid hrg
        have HLM := Lib.hid hlm
        clear hrg hlm
        go_upto_region 18 with (at_next; refine wpList_next_ranges _ rfl _ rfl A5 keyed5 (plainElem Tryd.prog TI) (fun x : Nat → Int => .agg (ag i64s 5 x)) (fun c : Int => .int .i64 c) HINVK.out HINV.out b r k (addTo (.map []) X k) left cnt rfl HRG.out ?_ ?_)
        · intro hc0 hl
          rw [vis_all X left hl k]
          clear hc0 hl HRG
          go_wp2_with fail
          refine (hmo.out b k _ wr HLM.out.log).mono ?_
          rintro e w2 ⟨f, n, hbest, rfl, hb2⟩
          have HT := Lib.hid (best_top (by omega) HWF.out hbest)
          have HG2 := Lib.hid (HLM.out.keep hb2)
          clear hbest hb2 HLM hmo hrs
          go_upto_region 21 with (refine wpList_store_mid rfl A5 _ _ rfl w2.heap.size 0 (ag i64s 5 f) rfl rfl ?hth ?hin3 ?hon ?_; (case hth => exact there_row (alloc_at _ _) _ (by rw [ag_size]; exact Nat.le_refl _)); (case hin3 => exact info5_ag _); (case hon => exact ag_one i64s 5 _))
          obtain ⟨q1, q2⟩ := k5_new w2 f
          refine cut_world (fun W => LG w b A k X W ∧ Bx w2.heap.size A5 i64s 5 f W) ⟨HG2.out.keep q1, q2⟩ ?_
          clear q1 q2 HG2
          generalize w2.heap.size = p1 at *
          rintro V1 ⟨hg1, hp1⟩
          have HG3 := Lib.hid hg1
          have HP1 := Lib.hid hp1
          clear hg1 hp1
          go_wp2_with fail
          refine (hrm.out A k k X V1 (by omega) HG3.out.list).mono ?_
          rintro e w3 ⟨g, m, htop, rfl, hb3⟩
          obtain ⟨hfg, hnm⟩ := top_one HT.out htop
          subst hnm
          have HG4 := Lib.hid (HG3.out.keep hb3)
          have HP2 := Lib.hid (HP1.out.keep hb3)
          have heq := fun w => eq5_yes f g (L5_inj hfg) w
          clear htop hb3 HG3 HP1 hrm HT hfg
          go_upto_region 22 with (refine wpList_store_mid rfl A5 _ _ rfl w3.heap.size 0 (ag i64s 5 g) rfl rfl ?hth ?hin3 ?hon ?_; (case hth => exact there_row (alloc_at _ _) _ (by rw [ag_size]; exact Nat.le_refl _)); (case hin3 => exact info5_ag _); (case hon => exact ag_one i64s 5 _))
          obtain ⟨q1, q2⟩ := k5_new w3 g
          refine cut_world (fun W => LG w b A k X W ∧ Bx p1 A5 i64s 5 f W ∧ Bx w3.heap.size A5 i64s 5 g W) ⟨HG4.out.keep q1, HP2.out.keep q1, q2⟩ ?_
          clear q1 q2 HG4 HP2
          generalize w3.heap.size = p2 at *
          rintro V2 ⟨hg2, hp1, hp2⟩
          have HG5 := Lib.hid hg2
          have HP3 := Lib.hid hp1
          have HP4 := Lib.hid hp2
          clear hg2 hp1 hp2
          go_wp2_with ((with_reducible refine gate_load A5 _ rfl ?_); first | (refine load_row_g rfl A5 _ rfl p1 rfl _ (ag i64s 5 f) (0, 0) _ HP3.out Tryd.underlying55 rfl ?hin ?_; (case hin => exact info5_ag _)) | (refine load_row_g rfl A5 _ rfl p2 rfl _ (ag i64s 5 g) (0, 0) _ HP4.out Tryd.underlying55 rfl ?hin ?_; (case hin => exact info5_ag _)))
          go_ret
          exact ⟨rfl, HG5.out.below⟩
        · rintro x c kl a ps w1 cnt1 hkey hlk hv hat hrg1 hlt hgr hsz hen
          obtain ⟨hx, rfl⟩ := wf_of_key hkey
          obtain ⟨c', hc', ha, -⟩ := plainElem_int_inv Tryd.underlying3 hv
          simp only [Value.int.injEq, true_and] at hc'
          subst hc'
          simp only [Prod.mk.injEq] at ha
          have hin : InLog (addTo (.map []) X k) x c := ⟨hx, fun z => by rw [hat z, ha.1]⟩
          obtain ⟨-, hcc, -⟩ := (inLog_iff X k (by omega) HWF.out x c).1 hin
          subst hcc
          have hvs := vis_step X left x hx hlk k HWF.out
          have hv1 := vis_le X (fun z => left z && !z.sameKey (k5 x)) k
          have HG1 := Lib.hid (HLM.out.keepG HA.out hgr (by omega) (by omega))
          have HRG1 := Lib.hid hrg1
          have HLT := Lib.hid hlt
          have hrw := hrg1.lt
          have Hvs := Lib.hid hvs
          clear hkey hlk hv hat ha hin hrg1 hlt hgr hsz HLM hx hrs
          generalize visN X left k = sm at *
          generalize cntTo X x k = cc at *
          have hsb : sm + cc ≤ 60 := by omega
          clear hvs hv1
          go_wp2_with fail
          go_roundw
          case rel => exact ⟨_, cnt1, by rw [Hvs.out]; go_num, HRG1.out, HG1.out, hrw⟩
          case measure => rw [HRG1.out.left_eq, HRG.out.left_eq]; exact HLT.out
theorem logs_all (len cap : Nat) (A : Option Addr) (X : Nat → Nat → Int) (at_ : Int) (w : World) (hW : WidthW w) (hat : 0 ≤ at_ ∧ at_ ≤ 255) (hlc : len ≤ cap) (hA : LA A len X w) (hwf : ∀ i, i < len → wf5 (X i)) :
    Calls Tryd.prog 9 #[.slice A len cap, .int .u8 at_] w fun e w' => e = .returned (.bool true) ∧ Below w.heap.size w w' := by
  obtain ⟨K, hK⟩ : ∃ K : Nat, (K : Int) = min at_ len := ⟨(min at_ len).toNat, by omega⟩
  by_cases hck : cap = K
  · obtain rfl : cap = len := by omega
    obtain rfl : K = cap := hck.symm
    exact logs_full K A X at_ w hW hat hK hA hwf
  · exact logs_any len cap A X at_ w hW hat hlc K hK hck hA hwf
end Go.Proofs.YtcibajleknhklaaDoor
end

section
namespace Go
open Go.RowKit Go.ChangeShapes Go.WideShapes
/-- All arguments read again. -/
theorem trodAll_below {H : Type} {enc : TypeId × Value → H} {P : Program} (hl : laidOutB P = true) {W W' : World} (hb : Below W.heap.size W W') :
    ∀ (ts : List TypeId) (vs : List Value) (ds : List (DataW H)) (ps : List MemPlace), (ts.all fun t => P.readableRec t && decide (t < P.types.size)) = true →
      DataW.TrodAll enc P W 0 (fun _ => true) true ts vs ds ps → (∀ x ∈ ps, x.block < W.heap.size) → DataW.TrodAll enc P W' 0 (fun b => decide (b < W.heap.size)) true ts vs ds ps
  | [], vs, ds, ps, _, h, _ => by
    obtain ⟨rfl, rfl, rfl⟩ := trodAll_nil h
    exact trodAll_mk0
  | t :: ts, vs, ds, ps, hr, h, hlt => by
    simp only [List.all_cons, Bool.and_eq_true, decide_eq_true_eq] at hr
    obtain ⟨v, vs', d, ds', p, q, rfl, rfl, rfl, h1, h2⟩ := trodAll_cons h
    exact trodAll_cons_mk (Below.trod hl hr.1.1 hr.1.2 h1 hb (fun x hx => hlt x (List.mem_append_left _ hx))) (trodAll_below hl hb ts vs' ds' q hr.2 h2 (fun x hx => hlt x (List.mem_append_right _ hx)))
end Go
end

section
namespace Go.Proofs.YtcibajleknhklaaDoor
open Go.RowKit
theorem widths_of {W : World} {rest : List (String × DataW Unit)} (h : laidMet Tryd.prog (("spinet/mode.widths", Rows.laid_spinet_mode_widths) :: rest) W) : WidthW W := by
  have hT := Lib.tabIs_of_head (P := Tryd.prog) (g := 1) (t := 55) (e := 3) (n := 5) (k := .i64) (zs := widL) (by kernel_rfl) (by kernel_rfl) Tryd.underlying55 Tryd.underlying3 (by kernel_rfl) (by kernel_rfl) h
  have hc := fun i hi => hT.cell (g := 1) (by kernel_rfl) i hi
  exact ⟨World.block_lt_of_cell? W ⟨1, 0, none⟩ (hc 0 (by decide)), hc⟩
end Go.Proofs.YtcibajleknhklaaDoor
end

section
namespace Go
open Go.RowKit
set_option linter.unusedSimpArgs false
section
variable {H : Type} {enc : TypeId × Value → H} {P : Program} {w : World} {base : Nat} {spare : Nat → Bool} {held : Bool}
theorem addr_add (b off x : Nat) : (⟨b, off, none⟩ : Addr).add x = ⟨b, off + x, none⟩ := by
  unfold Addr.add
  split
  · rename_i h; subst h; rfl
  · rfl
theorem cells?_at {a : Addr} {n : Nat} {cs : List Value} (h : w.cells? base a n = some cs) : base ≤ a.block ∧ cs.length = n ∧ ∀ i, i < n → w.cell? (a.add i) = cs[i]? := by
  unfold World.cells? at h
  split at h
  · rename_i hb
    have h1 := mapM_some_length h
    have h2 := mapM_some_get h
    rw [List.length_range] at h1
    exact ⟨hb, h1, fun i hi => h2 i i (by rw [List.getElem?_range hi])⟩
  · cases h
/-- A slice whose elements are flat: where it lies, and each element's cells. -/
theorem open_flat_slice {r : Reach} {b0 : Nat} {t e : TypeId} {v : Value} {dd : DataW H} {p : List MemPlace} (d : Nat) (ls : List Leaf) (ht : P.underlying t = some (.slice e)) (hl : layout P d e = some ls) (hpos : 0 < ls.length)
    (hv : Value.okWide P w r b0 t v) (h : DataW.Trod enc P w base spare held t v dd p) :
    ∃ A len cap, v = .slice A len cap ∧ len ≤ cap ∧ cap ≤ maxLen ∧ (0 < len → ∃ b off, A = some ⟨b, off, none⟩ ∧ base ≤ b ∧ b < w.heap.size ∧ ∀ i, i < len → ∃ cs : List Value, fitAllW ls cs = true ∧ ∀ j, j < ls.length → w.cell? ⟨b, off + i * ls.length + j, none⟩ = cs[j]?) := by
  obtain ⟨fuel, hf⟩ := h
  have hne : v.cells.toList = [v] := by
    cases v with
    | agg cs => simp [Value.okWide, ht, Cell.okWide, Cell.ok] at hv
    | _ => rfl
  rw [hne] at hf
  rcases DataW.trod_slice ht hf with ⟨hcs, _⟩ | ⟨a, len, cap, elems, rest, n, _, hcs, _, hb, hle, hm, hlen, hel, _, _⟩
  · obtain rfl : v = .slice none 0 0 := by simpa using hcs
    exact ⟨none, 0, 0, rfl, Nat.le_refl _, by unfold maxLen; omega, fun h => absurd h (by omega)⟩
  · obtain rfl : v = .slice (some a) len cap := by simpa using hcs
    refine ⟨some a, len, cap, rfl, hle, hm, fun hp => ?_⟩
    have hce := layout_cells hl
    have each : ∀ i, i < len → ∃ cs : List Value, fitAllW ls cs = true ∧ ∀ j, j < ls.length → w.cell? ((a.add (i * ls.length)).add j) = cs[j]? := fun i hi => by
      have h1 := hel i hi
      rw [List.getElem?_eq_getElem (by omega)] at h1
      obtain ⟨cs, h2, h3⟩ := Option.bind_eq_some_iff.1 h1
      rw [hce] at h2
      obtain ⟨_, h4, h5⟩ := cells?_at h2
      exact ⟨cs, flat_of_trod d n e ls cs _ hl h3, h5⟩
    -- the address is a cell's
    have hs : a.spot = none ∧ a.block < w.heap.size := by
      obtain ⟨cs, h1, h2⟩ := each 0 hp
      have h3 := h2 0 hpos
      have h4 := fitAllW_length h1
      rw [List.getElem?_eq_getElem (by omega)] at h3
      have e : (a.add (0 * ls.length)).add 0 = a := by simp [Addr.add]
      rw [e] at h3
      refine ⟨?_, World.block_lt_of_cell? w a h3⟩
      unfold World.cell? at h3
      split at h3
      · split at h3
        · cases h3
        · rename_i hh
          cases hsp : a.spot with
          | none => rfl
          | some x => rw [hsp] at hh; simp at hh
      · cases h3
    obtain ⟨b, off, sp⟩ := a
    obtain ⟨hs1, hs2⟩ := hs
    simp only at hs1 hs2
    subst hs1
    refine ⟨b, off, rfl, hb, hs2, fun i hi => ?_⟩
    obtain ⟨cs, h1, h2⟩ := each i hi
    refine ⟨cs, h1, fun j hj => ?_⟩
    have e : ((⟨b, off, none⟩ : Addr).add (i * ls.length)).add j = ⟨b, off + i * ls.length + j, none⟩ := by
      rw [addr_add, addr_add]
    rw [← e]
    exact h2 j hj
end
/-- The whole number behind an address. -/
def intCell (w : World) (A : Option Addr) (k : Nat) : Int := match A with | some a => intOf ((w.cell? ⟨a.block, a.off + k, none⟩).getD (.bool false)) | none => 0
/-- What 'open_flat_slice' tells, cell by cell, as whole numbers. -/
theorem int_cells {w : World} {A : Option Addr} {len base : Nat} {ls : List Leaf} (h : 0 < len → ∃ b off, A = some ⟨b, off, none⟩ ∧ base ≤ b ∧ b < w.heap.size ∧ ∀ i, i < len → ∃ cs : List Value, fitAllW ls cs = true ∧ ∀ j, j < ls.length → w.cell? ⟨b, off + i * ls.length + j, none⟩ = cs[j]?) :
    0 < len → ∃ b off, A = some ⟨b, off, none⟩ ∧ b < w.heap.size ∧ ∀ i, i < len → ∀ (j : Nat) (k : IntKind), ls[j]? = some (.int k) → w.cell? ⟨b, off + i * ls.length + j, none⟩ = some (.int k (intCell w A (i * ls.length + j))) ∧ (Lit.int k (intCell w A (i * ls.length + j))).wf = true := by
  intro hp
  obtain ⟨b, off, rfl, _, hb, hc⟩ := h hp
  refine ⟨b, off, rfl, hb, fun i hi j k hj => ?_⟩
  obtain ⟨cs, h1, h2⟩ := hc i hi
  obtain ⟨n, h3, h4⟩ := fitAllW_at j k h1 hj
  have h5 := h2 j (List.getElem?_eq_some_iff.1 hj).1
  rw [h3] at h5
  have h6 : intCell w (some ⟨b, off, none⟩) (i * ls.length + j) = n := by
    unfold intCell
    simp only
    rw [← Nat.add_assoc, h5]
    rfl
  rw [h6]
  exact ⟨h5, h4⟩
end Go
end

section
namespace Go.Proofs.YtcibajleknhklaaDoor
open Go.ChangeShapes Go.WideShapes Go.ChangeAt Go.WideMaps Go.WideElems Go.RowKit
set_option maxRecDepth 100000 in
theorem shareLogs_lifted (os : Os) (started : os.Started) (H : Type) (enc : TypeId × Value → H) :
    ReturnsInHanded {} Tryd.checked os 9 .any (fun w args => (Rows.shareLogsSpec.pre enc Tryd.prog Tryd.f9 [] false w args ∧ laidMetH Tryd.prog Rows.shareLogsRow.laid w) ∧ sizedMet enc Tryd.prog Tryd.f9 (OpenSpec.ofChange Rows.shareLogsSpec) false w args)
      (Rows.shareLogsSpec.post enc Tryd.prog Tryd.f9 false true false false) := by
  refine returnsInHanded_of_change_and (C := Tryd.checked) (X := fun w _ => laidMetH Tryd.prog Rows.shareLogsRow.laid w) (fun _ _ _ hh h => h.of_heap hh) (by kernel_rfl) started (by kernel_rfl) Tryd.func9
    (ChangeSpec.witness_shaped (enc := enc) (C := Tryd.checked) (os := os) (X := fun w _ => laidMetH Tryd.prog Rows.shareLogsRow.laid w) false (World.doorLaid Tryd.prog 400 os) #[.slice none 0 0, .int .u8 0] 8 rfl (World.shaped_of_RefB (by kernel_rfl) (by kernel_rfl)) (by kernel_rfl) (by kernel_rfl) (by kernel_rfl)
      (laidMetH_of_parts3 (fuel := 8) (laidMet_of_run' 8 (by kernel_rfl) (by kernel_rfl)) (by kernel_rfl) (by kernel_rfl))) ?_
  intro W base args ds gs before hval0 hW _ _ hL _
  have hval : ∀ (j : Nat) t v, Tryd.f9.params[j]? = some t → args[j]? = some v → Value.okWide Tryd.prog W .any base t v := hval0
  have hW' := hW
  obtain ⟨p, q, hA0, hV, rfl, hfz, hnd⟩ := hW
  have hA : DataW.TrodAll enc Tryd.prog W 0 (fun _ => true) true Tryd.f9.params.toList args.toList ds p := hA0
  have hA2 := hA
  rw [Tryd.params9] at hA hval
  obtain ⟨v0, v1, d0, d1, p0, p1, rfl, rfl, hp, h0, h1⟩ := trodAll_two hA
  obtain ⟨rfl, rfl⟩ := trodVars_none hV
  obtain ⟨A, len, cap, rfl, hle, hm, hcs⟩ := open_flat_slice 5 [.int .i64, .int .i64, .int .i64, .int .i64, .int .i64] Tryd.underlying64 (by kernel_rfl) (by decide) (hval 0 64 v0 rfl rfl) h0
  have hic := int_cells hcs
  obtain ⟨k, rfl, rfl, hp1, wk⟩ := open_int Tryd.underlying5 (hval 1 5 v1 rfl rfl) h1
  rw [MakeChecks.laidMetH_plain _ _ _ (by kernel_rfl)] at hL
  have hT : WidthW W := widths_of hL
  simp only [List.append_nil] at hW'
  have h5 : ∀ j, j < 5 → ([.int .i64, .int .i64, .int .i64, .int .i64, .int .i64] : List Leaf)[j]? = some (.int .i64) := fun j hj => by
    rcases (show j = 0 ∨ j = 1 ∨ j = 2 ∨ j = 3 ∨ j = 4 by omega) with h | h | h | h | h <;> subst h <;> rfl
  refine (logs_all len cap A (fun i j => intCell W A (i * 5 + j)) k W hT (wf_u8 wk) hle (fun hp => ?_) (fun i hi j hj => ?_)).mono fun e W' ⟨he, hb⟩ => ?_
  · obtain ⟨bk, off, hA, hb, hc⟩ := hic hp
    exact ⟨bk, off, hA, hb, fun i hi j hj => (hc i hi j .i64 (h5 j hj)).1⟩
  · obtain ⟨bk, off, hA, hb, hc⟩ := hic (by omega)
    exact (hc i hi j .i64 (h5 j hj)).2
  subst he
  have e1 : Rows.shareLogsSpec.fn H ([d0, .lit (.int .u8 k)] ++ []) = { results := [.lit (.bool true)], args := [d0, .lit (.int .u8 k)] } := by simp [Rows.shareLogsSpec]
  refine ⟨_, rfl, _, _, _, [], p, [], hW', ?_, ?_, ?_, hb.frame _, fun h => by cases h⟩
  · rw [e1]; exact trodAll_mk1 (shut_bool Tryd.underlying4 _)
  · rw [e1]; exact trodAll_below (by kernel_rfl) hb _ _ _ _ (by kernel_rfl) hA2 (fun x hx => by simpa using hW'.lt x (by simpa using hx))
  · rw [e1]; rfl
theorem shareLogs_holds : Rows.ShareLogsSaid :=
  OpenClaim.holds_of_wide 9 Tryd.f9 rfl rfl rfl rfl rfl rfl rfl ⟨rfl, rfl, rfl, rfl, rfl⟩ rfl rfl rfl rfl rfl (by kernel_rfl) Tryd.func9 (by kernel_rfl)
    (of_decide_eq_true (by kernel_rfl)) (by unfold Func.isWrapper; rw [if_neg (of_decide_eq_false (by kernel_rfl))]; exact ⟨rfl, rfl⟩)
    (fun os started H enc _ => shareLogs_lifted os started H enc)
theorem shareLogs_card : Rows.ShareLogsCardSaid :=
  Claim7.holds_tied_plain_at .later [] [.data] true (true, "ae348317897b4f8711de699b2180ffb779772e4703cfa942f657876935132cc0") false
    shareLogs_holds (fun _ h => by cases h) (by kernel_rfl) (fun _ h => by cases h) shareLogs_row_tie rfl ⟨rfl, rfl⟩ (by kernel_rfl) rfl
    (fun f fn hf hfn => by
      obtain rfl : f = 9 := Option.some.inj ((show Tryd.prog.funcNamed "spinet/spinetlaw15.ShareLogs" = some 9 by kernel_rfl).symm.trans hf) |>.symm
      obtain rfl : fn = Tryd.f9 := (Option.some.inj (Tryd.func9.symm.trans hfn)).symm
      exact ⟨by kernel_rfl, fun j t ht => by
        rw [Tryd.params9] at ht
        have hm : t ∈ [64, 5] := by simpa using Array.mem_of_getElem? ht
        have hall : ([64, 5].all fun u => !Tryd.prog.wantsStandIn u) = true := by kernel_rfl
        exact (show Tryd.prog.wantsStandIn t = false by simpa using List.all_eq_true.1 hall t (by simpa using hm))⟩)
    (by kernel_rfl)
end Go.Proofs.YtcibajleknhklaaDoor
end

