/-
  StateFades: behind any frame, loss by loss, no number of the sound has a magnitude above the history's peak times the fade, and from the fifth loss on all is silent, up to 20 losses. For every input. The condition: the tables of fades and of cosines read as the program's text lays them (tied).
  (One text out of these parts: KeepP, KeepW, FadeP, FadeW, Law, LaidF, LaidC, StateFadesRow.)
-/
import Derived.Test.YtcibajleknhklaaDoorSfdh
import Derived.BigQuiet
import Derived.Great.BuildSlice
import Derived.ProofKit
import Derived.LaidMore
import Derived.OpenShut
import Derived.Stop.Joined
import Derived.Lib.LaidTab
import Derived.Test.YtcibajleknhklaaDoorRows
import Derived.Test.YtcibajleknhklaaDoorCards
import Derived.Test.YtcibajleknhklaaDoorTie
import Derived.SevenTiedAt
import Derived.Stop.LaidErr
section
namespace Go.Proofs.YtcibajleknhklaaDoor
open Go.RowKit Go.Proofs.YtcibajleknhklaaDoorW.PrintWords
open PStateTells RStateTells
set_option linter.unusedSimpArgs false
set_option linter.unusedVariables false
/-- A place of channel d. -/
def ownC (d j : Nat) : Prop := (10 + d * 32 ≤ j ∧ j < 42 + d * 32) ∨ (74 + d * 32 ≤ j ∧ j < 106 + d * 32) ∨ j = 138 + d ∨ (d * 5 ≤ j ∧ j < d * 5 + 5)
theorem playTo_at (s : Int) (nb : Nat) (xs e st : Nat → Int) (hb : nb ≤ 5) (c d : Nat) (hc : c ≤ 2) (hd : d < c) (j : Nat) (hj : ownC d j) : playTo s nb xs e st c j = playC s nb xs e d st j := by
  unfold ownC at hj
  rcases (show c = 1 ∧ d = 0 ∨ c = 2 ∧ d = 0 ∨ c = 2 ∧ d = 1 by omega) with ⟨rfl, rfl⟩ | ⟨rfl, rfl⟩ | ⟨rfl, rfl⟩
  · rfl
  · show playC s nb xs e 1 (playC s nb xs e 0 st) j = _
    exact playC_other s nb xs e _ 1 0 hb (by omega) (by omega) (by omega) j (by omega)
  · show playC s nb xs e 1 (playTo s nb xs e st 1) j = _
    have ho : playTo s nb xs e st 1 j = st j := playTo_other s nb xs e st 1 hb (by omega) j (by omega) 1 (by omega)
    unfold playC
    rw [lapL_to s nb xs e st 1 hb (by omega), emL_to s nb xs e st 1 hb (by omega), ho]
theorem loseC_other (n nb c d : Nat) (L : Int) (st : Nat → Int) (hn : n ≤ 32) (hb : nb ≤ 5) (hc : c < 2) (hd : d < 2) (h : c ≠ d) (j : Nat) (hj : ownC d j) : loseC n nb L c st j = st j := by
  unfold ownC at hj
  unfold loseC
  rw [if_neg (by omega), if_neg (by omega), if_neg (by omega), if_neg (by omega)]
theorem loseTo_at (n nb : Nat) (L : Int) (st : Nat → Int) (hn : n ≤ 32) (hb : nb ≤ 5) (c d : Nat) (hc : c ≤ 2) (hd : d < c) (j : Nat) (hj : ownC d j) : loseTo n nb L st c j = loseC n nb L d st j := by
  rcases (show c = 1 ∧ d = 0 ∨ c = 2 ∧ d = 0 ∨ c = 2 ∧ d = 1 by omega) with ⟨rfl, rfl⟩ | ⟨rfl, rfl⟩ | ⟨rfl, rfl⟩
  · rfl
  · show loseC n nb L 1 (loseC n nb L 0 st) j = _
    exact loseC_other n nb 1 0 L _ hn hb (by omega) (by omega) (by omega) j hj
  · show loseC n nb L 1 (loseC n nb L 0 st) j = _
    have hh : histL (loseC n nb L 0 st) n 1 = histL st n 1 := loseC_hist n nb 0 1 L st hn hb (by omega) (by omega) (by omega)
    have ho : loseC n nb L 0 st j = st j := loseC_other n nb 0 1 L st hn hb (by omega) (by omega) (by omega) j hj
    generalize loseC n nb L 0 st = T at *
    unfold loseC
    rw [hh, ho]
theorem loseTo_off (n nb : Nat) (L : Int) (st : Nat → Int) (hn : n ≤ 32) (hb : nb ≤ 5) (d : Nat) (hd : d < 2) (j : Nat) (hj : ownC d j) : ∀ c, c ≤ d → loseTo n nb L st c j = st j
  | 0, _ => rfl
  | c + 1, h => by
    rw [loseTo, loseC_other n nb c d L _ hn hb (by omega) hd (by omega) j hj]
    exact loseTo_off n nb L st hn hb d hd j hj c (by omega)
theorem ok_at {l : List Int} {lo hi : Int} (h : okL lo hi l) (h0 : lo ≤ 0 ∧ 0 ≤ hi) (i : Nat) : lo ≤ l.getD i 0 ∧ l.getD i 0 ≤ hi := by
  rw [List.getD_eq_getElem?_getD]
  by_cases hi' : i < l.length
  · rw [List.getElem?_eq_getElem hi']
    exact h _ (List.getElem_mem hi')
  · rw [List.getElem?_eq_none (by omega)]
    exact h0
theorem sat24_id {x : Int} (h : -8388608 ≤ x ∧ x ≤ 8388607) : sat24 x = x := by unfold sat24; omega
theorem sat24_in {x : Int} (h : sat24 x = x) : -8388608 ≤ x ∧ x ≤ 8388607 := by unfold sat24 at h; omega
theorem sat28_id {x : Int} (h : -134217728 ≤ x ∧ x ≤ 134217727) : sat28 x = x := by unfold sat28; omega
/-- All numbers of 32 bits are. -/
def In32 (st : Nat → Int) : Prop := ∀ j, 10 ≤ j → j < 140 → -2147483648 ≤ st j ∧ st j ≤ 2147483647
/-- Right, and of 32 bits. -/
def Keep (s : Int) (c : Nat) (st : Nat → Int) : Prop := RStOk (nOf s) (nbOf s) c st ∧ In32 st
theorem own_cases (j : Nat) (h1 : 10 ≤ j) (h2 : j < 140) : ∃ d, d < 2 ∧ ownC d j := by
  unfold ownC
  by_cases a : j < 42
  · exact ⟨0, by omega, by omega⟩
  by_cases b : j < 74
  · exact ⟨1, by omega, by omega⟩
  by_cases c : j < 106
  · exact ⟨0, by omega, by omega⟩
  by_cases d : j < 138
  · exact ⟨1, by omega, by omega⟩
  by_cases e : j = 138
  · exact ⟨0, by omega, by omega⟩
  · exact ⟨1, by omega, by omega⟩
theorem keep_zero (s : Int) (c : Nat) : Keep s c (fun _ => 0) := by
  refine ⟨⟨⟨Int.le_refl 0, show (0 : Int) ≤ 1000 by decide⟩, fun ch _ => ⟨fun b _ => ⟨okE_zero, fun _ => rfl⟩, fun i _ => ⟨show sat24 0 = 0 by decide, fun _ => ⟨rfl, rfl⟩⟩, show sat28 0 = 0 by decide, fun _ => rfl⟩⟩, fun j _ _ => ⟨show (-2147483648 : Int) ≤ 0 by decide, show (0 : Int) ≤ 2147483647 by decide⟩⟩
theorem keep_play (s : Int) (hs : 0 ≤ s ∧ s ≤ 2) (c : Nat) (hc : 1 ≤ c ∧ c ≤ 2) (xs e st : Nat → Int) (sd : Int) (he : ∀ j, j < 10 → okE (e j)) (h : Keep s c st) : Keep s c (playF s c xs e sd st) := by
  have hn := nOf_in s
  have hnb : nbOf s ≤ 5 := by unfold nbOf; omega
  obtain ⟨⟨h0, h1⟩, h2⟩ := h
  have hat : ∀ d j, d < c → ownC d j → playF s c xs e sd st j = playC s (nbOf s) xs e d st j := fun d j hd hj => by
    have := hj
    unfold ownC at this
    unfold playF
    rw [if_neg (by omega), if_neg (by omega), Int.toNat_natCast]
    exact playTo_at s (nbOf s) xs e st hnb c d hc.2 hd j hj
  have hoff : ∀ d j, c ≤ d → d < 2 → ownC d j → playF s c xs e sd st j = st j := fun d j hd hd2 hj => by
    have := hj
    unfold ownC at this
    unfold playF
    rw [if_neg (by omega), if_neg (by omega), Int.toNat_natCast]
    exact playTo_other s (nbOf s) xs e st d hnb hd2 j (by omega) c hd
  refine ⟨⟨?_, fun ch hch => ?_⟩, fun j h10 h140 => ?_⟩
  · unfold playF
    rw [if_neg (by omega), if_pos rfl]
    omega
  · obtain ⟨r1, r2, r3⟩ := h1 ch hch
    by_cases hcc : ch < c
    · obtain ⟨-, l1, l2, l3, l4⟩ := lapL_some s xs st ch
      obtain ⟨-, m1, m2, m3⟩ := emL_some s xs st ch
      refine ⟨fun b hb => ?_, fun i hi => ?_, ?_⟩
      · rw [hat ch _ hcc (by unfold ownC; omega)]
        unfold playC
        rw [if_neg (by omega), if_neg (by omega), if_neg (by omega)]
        by_cases hbn : b < nbOf s
        · rw [if_pos (by omega)]
          exact ⟨he _ (by omega), fun h => by omega⟩
        · rw [if_neg (by omega)]
          exact r1 b hb
      · rw [hat ch _ hcc (by unfold ownC; omega), hat ch (10 + ch * 32 + i) hcc (by unfold ownC; omega)]
        unfold playC
        by_cases hin : i < nOf s
        · rw [if_neg (show ¬ (10 + ch * 32 ≤ 74 + ch * 32 + i ∧ 74 + ch * 32 + i < 10 + ch * 32 + nOf s) by omega), if_pos (show 74 + ch * 32 ≤ 74 + ch * 32 + i ∧ 74 + ch * 32 + i < 74 + ch * 32 + nOf s by omega)]
          exact ⟨sat24_id (ok_at l3 (by omega) _), fun h => by omega⟩
        · rw [if_neg (show ¬ (10 + ch * 32 ≤ 74 + ch * 32 + i ∧ 74 + ch * 32 + i < 10 + ch * 32 + nOf s) by omega), if_neg (show ¬ (74 + ch * 32 ≤ 74 + ch * 32 + i ∧ 74 + ch * 32 + i < 74 + ch * 32 + nOf s) by omega), if_neg (show ¬ 74 + ch * 32 + i = 138 + ch by omega), if_neg (show ¬ (ch * 5 ≤ 74 + ch * 32 + i ∧ 74 + ch * 32 + i < ch * 5 + nbOf s) by omega),
            if_neg (show ¬ (10 + ch * 32 ≤ 10 + ch * 32 + i ∧ 10 + ch * 32 + i < 10 + ch * 32 + nOf s) by omega), if_neg (show ¬ (74 + ch * 32 ≤ 10 + ch * 32 + i ∧ 10 + ch * 32 + i < 74 + ch * 32 + nOf s) by omega), if_neg (show ¬ 10 + ch * 32 + i = 138 + ch by omega), if_neg (show ¬ (ch * 5 ≤ 10 + ch * 32 + i ∧ 10 + ch * 32 + i < ch * 5 + nbOf s) by omega)]
          exact r2 i hi
      · rw [hat ch _ hcc (by unfold ownC; omega)]
        unfold playC
        rw [if_neg (by omega), if_neg (by omega), if_pos rfl]
        exact ⟨sat28_id m3, fun h => by omega⟩
    · have hcc' : c ≤ ch := by omega
      refine ⟨fun b hb => ?_, fun i hi => ?_, ?_⟩
      · rw [hoff ch _ hcc' hch (by unfold ownC; omega)]; exact r1 b hb
      · rw [hoff ch _ hcc' hch (by unfold ownC; omega), hoff ch (10 + ch * 32 + i) hcc' hch (by unfold ownC; omega)]; exact r2 i hi
      · rw [hoff ch _ hcc' hch (by unfold ownC; omega)]; exact r3
  · obtain ⟨d, hd, ho⟩ := own_cases j h10 h140
    by_cases hcc : d < c
    · rw [hat d j hcc ho]
      obtain ⟨-, l1, l2, l3, l4⟩ := lapL_some s xs st d
      obtain ⟨-, m1, m2, m3⟩ := emL_some s xs st d
      unfold playC
      split
      · exact ok_at l4 (by omega) _
      · split
        · have := ok_at l3 (by omega) (j - (74 + d * 32)); omega
        · split
          · omega
          · split
            · have := he j (by omega); unfold okE at this; omega
            · exact h2 j h10 h140
    · rw [hoff d j (by omega) hd ho]; exact h2 j h10 h140
theorem made_in (l : List Int) (L : Int) (h : ∀ x ∈ l, -8388608 ≤ x ∧ x ≤ 8388607) (i : Nat) : -8388608 ≤ madeAt l L i ∧ madeAt l L i ≤ 8388607 := by
  unfold madeAt
  have h1 : ∀ k, -8388608 ≤ hd (l.getD k 0) ∧ hd (l.getD k 0) ≤ 8388607 := fun k => by
    have := ok_at (l := l) (lo := -8388608) (hi := 8388607) h (by omega) k
    unfold hd; omega
  have h2 := h1 (l.length - lagF l + i % lagF l)
  generalize hd (l.getD (l.length - lagF l + i % lagF l) 0) = a at h2
  have h3 := fadeF_bd L
  generalize fadeF L = b at h3
  have e1 : a.natAbs ≤ 8388608 := by omega
  have e2 : b.natAbs ≤ 29491 := by omega
  have e3 : (a * b).natAbs ≤ 8388608 * 29491 := by rw [Int.natAbs_mul]; exact Nat.mul_le_mul e1 e2
  have e4 : ((a * b).tdiv 32768).natAbs = (a * b).natAbs / 32768 := by rw [Int.natAbs_tdiv]; rfl
  omega
theorem keep_lose (s : Int) (hs : 0 ≤ s ∧ s ≤ 2) (c : Nat) (hc : 1 ≤ c ∧ c ≤ 2) (st : Nat → Int) (h : Keep s c st) : Keep s c (loseF s c st) := by
  have hn := nOf_in s
  have hnb : nbOf s ≤ 5 := by unfold nbOf; omega
  obtain ⟨⟨h0, h1⟩, h2⟩ := h
  have hat : ∀ d j, d < c → ownC d j → loseF s c st j = loseC (nOf s) (nbOf s) (lossOf st) d st j := fun d j hd hj => by
    have := hj
    unfold ownC at this
    unfold loseF
    rw [if_neg (by omega), if_neg (by omega), Int.toNat_natCast]
    exact loseTo_at (nOf s) (nbOf s) _ st (by omega) hnb c d hc.2 hd j hj
  have hoff : ∀ d j, c ≤ d → d < 2 → ownC d j → loseF s c st j = st j := fun d j hd hd2 hj => by
    have := hj
    unfold ownC at this
    unfold loseF
    rw [if_neg (by omega), if_neg (by omega), Int.toNat_natCast]
    exact loseTo_off (nOf s) (nbOf s) _ st (by omega) hnb d hd2 j hj c hd
  have hmade : ∀ d, d < c → ∀ i, -8388608 ≤ madeAt (histL st (nOf s) d) (lossOf st) i ∧ madeAt (histL st (nOf s) d) (lossOf st) i ≤ 8388607 := fun d hd i => by
    refine made_in _ _ (fun x hx => ?_) i
    unfold histL at hx
    obtain ⟨k, hk, rfl⟩ := List.mem_map.1 hx
    have hk' : k < nOf s := by simpa using hk
    exact sat24_in ((h1 d (by omega)).2.1 k (by omega)).1
  refine ⟨⟨?_, fun ch hch => ?_⟩, fun j h10 h140 => ?_⟩
  · unfold loseF
    rw [if_neg (by omega), if_pos rfl]
    unfold lossOf
    omega
  · obtain ⟨r1, r2, r3⟩ := h1 ch hch
    by_cases hcc : ch < c
    · have hm := hmade ch hcc
      refine ⟨fun b hb => ?_, fun i hi => ?_, ?_⟩
      · rw [hat ch _ hcc (by unfold ownC; omega)]
        unfold loseC
        rw [if_neg (by omega), if_neg (by omega), if_neg (by omega)]
        have := r1 b hb
        unfold okE at this ⊢
        by_cases hbn : b < nbOf s
        · rw [if_pos (by omega)]
          omega
        · rw [if_neg (by omega)]
          exact this
      · rw [hat ch _ hcc (by unfold ownC; omega), hat ch (10 + ch * 32 + i) hcc (by unfold ownC; omega)]
        unfold loseC
        by_cases hin : i < nOf s
        · rw [if_neg (show ¬ (10 + ch * 32 ≤ 74 + ch * 32 + i ∧ 74 + ch * 32 + i < 10 + ch * 32 + nOf s) by omega), if_pos (show 74 + ch * 32 ≤ 74 + ch * 32 + i ∧ 74 + ch * 32 + i < 74 + ch * 32 + nOf s by omega)]
          exact ⟨sat24_id (hm _), fun h => by omega⟩
        · rw [if_neg (show ¬ (10 + ch * 32 ≤ 74 + ch * 32 + i ∧ 74 + ch * 32 + i < 10 + ch * 32 + nOf s) by omega), if_neg (show ¬ (74 + ch * 32 ≤ 74 + ch * 32 + i ∧ 74 + ch * 32 + i < 74 + ch * 32 + nOf s) by omega), if_neg (show ¬ 74 + ch * 32 + i = 138 + ch by omega), if_neg (show ¬ (ch * 5 ≤ 74 + ch * 32 + i ∧ 74 + ch * 32 + i < ch * 5 + nbOf s) by omega),
            if_neg (show ¬ (10 + ch * 32 ≤ 10 + ch * 32 + i ∧ 10 + ch * 32 + i < 10 + ch * 32 + nOf s) by omega), if_neg (show ¬ (74 + ch * 32 ≤ 10 + ch * 32 + i ∧ 10 + ch * 32 + i < 74 + ch * 32 + nOf s) by omega), if_neg (show ¬ 10 + ch * 32 + i = 138 + ch by omega), if_neg (show ¬ (ch * 5 ≤ 10 + ch * 32 + i ∧ 10 + ch * 32 + i < ch * 5 + nbOf s) by omega)]
          exact r2 i hi
      · rw [hat ch _ hcc (by unfold ownC; omega)]
        unfold loseC
        rw [if_neg (by omega), if_neg (by omega), if_pos rfl]
        exact ⟨by unfold sat28; omega, fun h => by omega⟩
    · have hcc' : c ≤ ch := by omega
      refine ⟨fun b hb => ?_, fun i hi => ?_, ?_⟩
      · rw [hoff ch _ hcc' hch (by unfold ownC; omega)]; exact r1 b hb
      · rw [hoff ch _ hcc' hch (by unfold ownC; omega), hoff ch (10 + ch * 32 + i) hcc' hch (by unfold ownC; omega)]; exact r2 i hi
      · rw [hoff ch _ hcc' hch (by unfold ownC; omega)]; exact r3
  · obtain ⟨d, hd, ho⟩ := own_cases j h10 h140
    by_cases hcc : d < c
    · rw [hat d j hcc ho]
      unfold loseC
      split
      · omega
      · split
        · have := hmade d hcc (j - (74 + d * 32)); omega
        · split
          · omega
          · split
            · omega
            · exact h2 j h10 h140
    · rw [hoff d j (by omega) hd ho]; exact h2 j h10 h140
theorem keep_E {s : Int} {c : Nat} {st : Nat → Int} (h : Keep s c st) (j : Nat) (hj : j < 10) : st j ≤ 9223372036854775807 := by
  have := ((h.1.2 (j / 5) (by omega)).1 (j % 5) (by omega)).1
  rw [show j / 5 * 5 + j % 5 = j from by omega] at this
  unfold okE at this
  omega
end Go.Proofs.YtcibajleknhklaaDoor
end

section
namespace Go.Proofs.YtcibajleknhklaaDoor
open Go.RowKit Go.BigFrame Go.Proofs.YtcibajleknhklaaDoorW.PrintWords Go.Proofs.YtcibajleknhklaaDoorW.PrintLast Go.Proofs.YtcibajleknhklaaDoorW.PrintMore
open PStateTells RStateTells
set_option linter.unusedSimpArgs false
set_option linter.unusedVariables false
abbrev TF := 106
theorem lawMode (a b : Int) (ha : 0 ≤ a ∧ a ≤ 255) (hb : 0 ≤ b ∧ b ≤ 255) (w : World) : Calls Tryd.prog 51 #[.agg #[.int .u8 a, .int .u8 b]] w fun e w' => e = .returned (.agg #[.int .i64 (a % 3), .int .i64 (b % 2 + 1)]) ∧ Below w.heap.size w w' := by
  go_enter Tryd.func51, Tryd.ntmps51
  go_wp2_with fail
  refine bodyPost_ret (v := .agg #[.int .i64 (a % 3), .int .i64 (b % 2 + 1)]) ?_ rfl ⟨rfl, by (repeat' (first | (with_reducible exact Below.refl _ _) | (with_reducible assumption) | (with_reducible refine Below.alloc ?_ ?_ _) | (with_reducible refine below_grew ?_ ?_ _) | (with_reducible refine Below.setCell ?_ ?_ _) | (with_reducible refine Below.drew ?_) | (with_reducible refine below_drewN ?_ _) | omega | (simp; done) | (simp; omega)))⟩
  exact results_cell_row rfl _ _ (w.heap.size + 1) _ _ _ _ rfl (alloc_secondOf _ _ _) Tryd.underlying60 rfl (by kernel_rfl)
/-- The mode, and the state that is kept. -/
structure LK (w : World) (m sb : Nat) (s c : Int) (st : Nat → Int) (W : World) : Prop where
  below : Below w.heap.size w W
  om : w.heap.size ≤ m
  os : m < sb
  mo : W.heap[m]? = some (.cells #[.int .i64 s, .int .i64 c] 60 (0, 0))
  st : Bx sb St kS 142 st W
theorem LK.size {w m sb s c st} {W : World} (h : LK w m sb s c st W) : sb < W.heap.size := (block_facts h.st).2.2
theorem LK.keep {w m sb s c st} {W W' : World} (h : LK w m sb s c st W) (hb : Below W.heap.size W W') : LK w m sb s c st W' := by
  have h1 := h.om
  have h2 := h.os
  have h3 := h.size
  exact ⟨h.below.trans (hb.mono (by omega)), h1, h2, (hb.block _ (by omega)).trans h.mo, (hb.block _ h3).trans h.st⟩
theorem LK.only {w m sb s c st} {st' : Nat → Int} {W W' : World} (h : LK w m sb s c st W) (ho : Only sb W W') (hf : Bx sb St kS 142 st' W') : LK w m sb s c st' W' := by
  have h1 := h.om
  have h2 := h.os
  exact ⟨ho.below h.below (by omega), h1, h2, (ho.block _ (by omega)).trans h.mo, hf⟩
theorem LK.other {w m sb s c st} {q : Nat} {W W' : World} (h : LK w m sb s c st W) (ho : Only q W W') (hq : sb < q) : LK w m sb s c st W' := by
  have h1 := h.om
  have h2 := h.os
  exact ⟨ho.below h.below (by omega), h1, h2, (ho.block _ (by omega)).trans h.mo, (ho.block _ (by omega)).trans h.st⟩
theorem LK.m0 {w m sb s c st} {W : World} (h : LK w m sb s c st W) : W.cell? ⟨m, 0, none⟩ = some (.int .i64 s) := (block_facts h.mo).1 0
theorem LK.m1 {w m sb s c st} {W : World} (h : LK w m sb s c st W) : W.cell? ⟨m, 1, none⟩ = some (.int .i64 c) := (block_facts h.mo).1 1
/-- .. and a step's spectrum and frame. -/
structure LF (w : World) (m sb xb fb : Nat) (s c : Int) (st X : Nat → Int) (W : World) : Prop where
  lk : LK w m sb s c st W
  ox : sb < xb
  of : xb < fb
  xx : Bx xb TX kX 75 X W
  ff : ∃ zf, W.heap[fb]? = some (.cells zf TF (0, 0)) ∧ zf.size = 94 ∧ ∀ j, j < 10 → ∃ e, zf[5 + j]? = some (.int .i64 e) ∧ okE e
theorem LF.size {w m sb xb fb s c st X} {W : World} (h : LF w m sb xb fb s c st X W) : fb < W.heap.size := by
  obtain ⟨zf, h1, _⟩ := h.ff
  exact (block_facts h1).2.2
theorem LF.keep {w m sb xb fb s c st X} {W W' : World} (h : LF w m sb xb fb s c st X W) (hb : Below W.heap.size W W') : LF w m sb xb fb s c st X W' := by
  have h1 := h.ox
  have h2 := h.of
  have h3 := h.size
  obtain ⟨zf, f1, f2, f3⟩ := h.ff
  exact ⟨h.lk.keep hb, h1, h2, (hb.block _ (by omega)).trans h.xx, zf, (hb.block _ h3).trans f1, f2, f3⟩
theorem LF.store {w m sb xb fb s c st X} {W : World} (h : LF w m sb xb fb s c st X W) (j : Nat) (hj : j < 10) (x : Int) (hx : okE x) : LF w m sb xb fb s c st X (W.setCell ⟨fb, 5 + j, none⟩ (.int .i64 x)) := by
  have h1 := h.ox
  have h2 := h.of
  have ho := only_setCell W ⟨fb, 5 + j, none⟩ (.int .i64 x)
  obtain ⟨zf, f1, f2, f3⟩ := h.ff
  refine ⟨h.lk.other ho (by show sb < fb; omega), h1, h2, (ho.block _ (by show xb ≠ fb; omega)).trans h.xx, _, setCell_own W fb (5 + j) zf _ _ _ f1, by rw [Array.size_setIfInBounds]; exact f2, fun i hi => ?_⟩
  by_cases e : i = j
  · subst e
    exact ⟨x, by rw [Array.getElem?_setIfInBounds_self_of_lt (by omega)], hx⟩
  · obtain ⟨y, h3, h4⟩ := f3 i hi
    exact ⟨y, by rw [Array.getElem?_setIfInBounds_ne (by omega)]; exact h3, h4⟩
theorem LF.cell {w m sb xb fb s c st X} {W : World} (h : LF w m sb xb fb s c st X W) (j : Nat) (hj : j < 10) : (∃ e, W.cell? ⟨fb, 5 + j, none⟩ = some (.int .i64 e)) ∧ W.frozen? ⟨fb, 5 + j, none⟩ = false := by
  obtain ⟨zf, f1, f2, f3⟩ := h.ff
  obtain ⟨y, h3, h4⟩ := f3 j hj
  exact ⟨⟨y, ((block_facts f1).1 (5 + j)).trans h3⟩, (block_facts f1).2.1 _⟩
theorem zeroF_at (j : Nat) (hj : j < 10) : Tryd.zeroCells106[5 + j]? = some (.int .i64 0) := by
  rcases (show j = 0 ∨ j = 1 ∨ j = 2 ∨ j = 3 ∨ j = 4 ∨ j = 5 ∨ j = 6 ∨ j = 7 ∨ j = 8 ∨ j = 9 by omega) with h | h | h | h | h | h | h | h | h | h <;> (subst h; kernel_rfl)
end Go.Proofs.YtcibajleknhklaaDoor
end

section
namespace Go.Proofs.YtcibajleknhklaaDoor
open Go.RowKit Go.Proofs.YtcibajleknhklaaDoorW.PrintWords
open PStateTells RStateTells
set_option linter.unusedSimpArgs false
set_option linter.unusedVariables false
theorem mix_one (a : List Int) : ∀ (n k : Nat), k < n → (mixF [a] n).getD k 0 = a.getD k 0
  | 0, _, h => by omega
  | n + 1, k, h => by
    have hl := mixF_len [a] n
    rw [show [a].length = 1 from rfl] at hl
    rw [mixF_succ, List.getD_eq_getElem?_getD]
    by_cases hk : k < n
    · rw [List.getElem?_append_left (by omega), ← List.getD_eq_getElem?_getD]
      exact mix_one a n k hk
    · rw [List.getElem?_append_right (by omega), show k - (mixF [a] n).length = 0 from by omega, show k = n from by omega]
      rfl
theorem mix_odd (a b : List Int) : ∀ (n k : Nat), k < n → (mixF [a, b] n).getD (2 * k + 1) 0 = b.getD k 0
  | 0, _, h => by omega
  | n + 1, k, h => by
    have hl := mixF_len [a, b] n
    rw [show [a, b].length = 2 from rfl] at hl
    rw [mixF_succ, List.getD_eq_getElem?_getD]
    by_cases hk : k < n
    · rw [List.getElem?_append_left (by omega), ← List.getD_eq_getElem?_getD]
      exact mix_odd a b n k hk
    · rw [List.getElem?_append_right (by omega), show 2 * k + 1 - (mixF [a, b] n).length = 1 from by omega, show k = n from by omega]
      rfl
/-- The greatest magnitude that may be heard. -/
def mostF (n : Nat) (st : Nat → Int) (ch k : Nat) : Int := if k < 4 then (min (pkTo st ch n) 2147483647 * fadeF ((k : Int) + 1)).tdiv 32768 else 0
theorem pk_ge (st : Nat → Int) (ch : Nat) : ∀ n i, i < n → st (74 + ch * 32 + i) ≤ pkTo st ch n ∧ -(st (74 + ch * 32 + i)) ≤ pkTo st ch n
  | 0, _, h => by omega
  | n + 1, i, h => by
    rw [pkTo]
    by_cases e : i = n
    · subst e; omega
    · have := pk_ge st ch n i (by omega)
      omega
theorem pk_nn (st : Nat → Int) (ch : Nat) : ∀ n, 0 ≤ pkTo st ch n
  | 0 => Int.le_refl 0
  | n + 1 => by rw [pkTo]; have := pk_nn st ch n; omega
theorem fade_le (a p f : Int) (h1 : a ≤ p) (h2 : -a ≤ p) (h3 : 0 ≤ f) : (a * f).tdiv 32768 ≤ (p * f).tdiv 32768 ∧ -((a * f).tdiv 32768) ≤ (p * f).tdiv 32768 := by
  have e1 : ((a * f).tdiv 32768).natAbs = a.natAbs * f.natAbs / 32768 := by rw [Int.natAbs_tdiv, Int.natAbs_mul]; rfl
  have e2 : ((p * f).tdiv 32768).natAbs = p.natAbs * f.natAbs / 32768 := by rw [Int.natAbs_tdiv, Int.natAbs_mul]; rfl
  have e3 : a.natAbs * f.natAbs / 32768 ≤ p.natAbs * f.natAbs / 32768 := Nat.div_le_div_right (Nat.mul_le_mul_right _ (by omega))
  have e4 : 0 ≤ (p * f).tdiv 32768 := Int.tdiv_nonneg (Int.mul_nonneg (by omega) h3) (by omega)
  omega
theorem hist_le (st : Nat → Int) (n ch : Nat) (i : Nat) : (histL st n ch).getD i 0 ≤ pkTo st ch n ∧ -((histL st n ch).getD i 0) ≤ pkTo st ch n := by
  by_cases h : i < n
  · rw [histL_at st n ch i h]; exact pk_ge st ch n i h
  · rw [List.getD_eq_getElem?_getD, List.getElem?_eq_none (by rw [histL_len]; omega)]
    have := pk_nn st ch n
    simp only [Option.getD_none]; omega
theorem sound_le (st : Nat → Int) (n ch k i : Nat) (hi : i < n) : (soundC st n ch ((k : Int) + 1)).getD i 0 ≤ mostF n st ch k ∧ -((soundC st n ch ((k : Int) + 1)).getD i 0) ≤ mostF n st ch k := by
  have e : (soundC st n ch ((k : Int) + 1)).getD i 0 = sat16 (madeAt (histL st n ch) ((k : Int) + 1) i) := by
    unfold soundC madeF
    rw [List.getD_eq_getElem?_getD, List.getElem?_map, List.getElem?_map, List.getElem?_range (by rw [histL_len]; exact hi)]
    rfl
  rw [e]
  have hm : madeAt (histL st n ch) ((k : Int) + 1) i ≤ mostF n st ch k ∧ -(madeAt (histL st n ch) ((k : Int) + 1) i) ≤ mostF n st ch k := by
    unfold madeAt mostF
    generalize (histL st n ch).length - lagF (histL st n ch) + i % lagF (histL st n ch) = q
    have h1 := hist_le st n ch q
    have h2 : hd ((histL st n ch).getD q 0) ≤ min (pkTo st ch n) 2147483647 ∧ -(hd ((histL st n ch).getD q 0)) ≤ min (pkTo st ch n) 2147483647 := by
      have := pk_nn st ch n
      unfold hd; omega
    have h3 := (fadeF_bd ((k : Int) + 1)).1
    by_cases hk : k < 4
    · rw [if_pos hk]
      exact fade_le _ _ _ h2.1 h2.2 h3
    · rw [if_neg hk, show fadeF ((k : Int) + 1) = 0 from by unfold fadeF; rw [if_neg (by omega), if_neg (by omega), if_neg (by omega), if_neg (by omega)], Int.mul_zero]
      exact ⟨by decide, by decide⟩
  have h0 : 0 ≤ mostF n st ch k := by omega
  unfold sat16
  omega
/-- What is heard of a loss. -/
theorem fades_le (st : Nat → Int) (s : Int) (c k i : Nat) (hc : 1 ≤ c ∧ c ≤ 2) (hk : st 141 = k) (hk2 : k ≤ 1000) (hi : i < nOf s * c) :
    rd (mixF (soundsF s st c) (nOf s)) i ≤ mostF (nOf s) st (i % c) k ∧ -(rd (mixF (soundsF s st c) (nOf s)) i) ≤ mostF (nOf s) st (i % c) k := by
  have hL : lossOf st = (k : Int) + 1 := by unfold lossOf; rw [hk]; omega
  unfold rd
  rw [Int.toNat_natCast]
  rcases (show c = 1 ∨ c = 2 by omega) with rfl | rfl
  · have e : soundsF s st 1 = [soundC st (nOf s) 0 (lossOf st)] := rfl
    rw [e, hL, mix_one _ _ _ (by omega), show i % 1 = 0 from by omega]
    exact sound_le st (nOf s) 0 k i (by omega)
  · have e : soundsF s st 2 = [soundC st (nOf s) 0 (lossOf st), soundC st (nOf s) 1 (lossOf st)] := rfl
    rw [e, hL]
    by_cases h : i % 2 = 0
    · rw [show i = 2 * (i / 2) from by omega, mix_even _ _ _ _ (by omega), show 2 * (i / 2) % 2 = 0 from by omega]
      exact sound_le st (nOf s) 0 k (i / 2) (by omega)
    · rw [show i = 2 * (i / 2) + 1 from by omega, mix_odd _ _ _ _ (by omega), show (2 * (i / 2) + 1) % 2 = 1 from by omega]
      exact sound_le st (nOf s) 1 k (i / 2) (by omega)
theorem lost_next (s : Int) (c : Int) (st : Nat → Int) (k : Nat) (hk : st 141 = k) (hk2 : k < 1000) : loseF s c st 141 = ((k + 1 : Nat) : Int) := by
  unfold loseF
  rw [if_neg (by omega), if_pos rfl]
  unfold lossOf
  rw [hk]
  omega
theorem lost_play (s : Int) (c : Int) (xs e st : Nat → Int) (sd : Int) : playF s c xs e sd st 141 = 0 := by
  unfold playF
  rw [if_neg (by omega), if_pos rfl]
end Go.Proofs.YtcibajleknhklaaDoor
end

section
namespace Go.Proofs.YtcibajleknhklaaDoor
open Go.RowKit Go.BigFrame Go.Proofs.YtcibajleknhklaaDoorW.PrintWords Go.Proofs.YtcibajleknhklaaDoorW.PrintLast Go.Proofs.YtcibajleknhklaaDoorW.PrintMore
open PStateTells RStateTells
set_option linter.unusedSimpArgs false
set_option linter.unusedVariables false
theorem most_bd (n : Nat) (st : Nat → Int) (ch k : Nat) : 0 ≤ mostF n st ch k ∧ mostF n st ch k ≤ 2147483647 := by
  unfold mostF
  have h := pk_nn st ch n
  have h3 := fadeF_bd ((k : Int) + 1)
  generalize pkTo st ch n = p at h
  generalize fadeF ((k : Int) + 1) = f at h3
  split
  · have h0 : 0 ≤ min p 2147483647 ∧ min p 2147483647 ≤ 2147483647 := by omega
    generalize min p 2147483647 = q at h0
    have e4 : 0 ≤ (q * f).tdiv 32768 := Int.tdiv_nonneg (Int.mul_nonneg h0.1 h3.1) (by omega)
    have e2 : ((q * f).tdiv 32768).natAbs = q.natAbs * f.natAbs / 32768 := by rw [Int.natAbs_tdiv, Int.natAbs_mul]; rfl
    have e3 : q.natAbs * f.natAbs ≤ 2147483647 * 29491 := Nat.mul_le_mul (by omega) (by omega)
    omega
  · omega
theorem lose_fade (st : Nat → Int) (s : Int) (c k : Nat) (hs : 0 ≤ s ∧ s ≤ 2) (hc : 1 ≤ c ∧ c ≤ 2) (h : Keep s c st) (hk : st 141 = k) (hk2 : k ≤ 20) (w : World) (hT : FadeW w) :
    Calls Tryd.prog 49 #[.agg (ag kS 142 st), .agg #[.int .i64 s, .int .i64 c]] w fun e w' => ∃ A c1 L, e = .returned (.tuple #[.agg (ag kS 142 (loseF s c st)), .slice A (nOf s * c) c1]) ∧ Kd.R (Kd.int .i16) 108 w' w.heap.size (fun _ => True) (.slice A (nOf s * c) c1) L ∧
      L.length = nOf s * c ∧ (∀ i, i < nOf s * c → rd L i ≤ mostF (nOf s) st (i % c) k ∧ -(rd L i) ≤ mostF (nOf s) st (i % c) k) ∧ Below w.heap.size w w' := by
  refine (lose_any st s c hs hc (keep_E h) w hT).mono ?_
  rintro e w' ⟨v, rfl, hv, hb⟩
  have hl : (mixF (soundsF s st c) (nOf s)).length = nOf s * c := by rw [mixF_len]; simp [soundsF]
  obtain ⟨A, c1, rfl, -, -⟩ := Kd.R_reads hv
  rw [hl] at hv ⊢
  exact ⟨A, c1, _, rfl, hv, hl, fun i hi => fades_le st s c k i hc hk (by omega) hi, hb⟩
def fadeL : List Int := [29491, 22937, 13107, 4915]
theorem fadeL_at (k : Nat) (h : k < 4) : (fadeL.map (Value.int .i64)).toArray[k]? = some (.int .i64 (fadeF ((k : Int) + 1))) := by
  rcases (show k = 0 ∨ k = 1 ∨ k = 2 ∨ k = 3 by omega) with h | h | h | h <;> (subst h; rfl)
/-- .. and the fades. -/
structure LD (w : World) (m sb gb : Nat) (s c : Int) (st : Nat → Int) (W : World) : Prop where
  lk : LK w m sb s c st W
  og : sb < gb
  gg : W.heap[gb]? = some (.cells (fadeL.map (Value.int .i64)).toArray 2 (0, 0))
theorem LD.keep {w m sb gb s c st} {W W' : World} (h : LD w m sb gb s c st W) (hb : Below W.heap.size W W') : LD w m sb gb s c st W' :=
  ⟨h.lk.keep hb, h.og, (hb.block _ (block_facts h.gg).2.2).trans h.gg⟩
theorem LD.only {w m sb gb s c st} {st' : Nat → Int} {W W' : World} (h : LD w m sb gb s c st W) (ho : Only sb W W') (hf : Bx sb St kS 142 st' W') : LD w m sb gb s c st' W' := by
  have h1 := h.og
  exact ⟨h.lk.only ho hf, h1, (ho.block _ (by omega)).trans h.gg⟩
set_option maxHeartbeats 1500000 in
set_option maxRecDepth 100000 in
theorem fades_any (a b z : Int) (ha : 0 ≤ a ∧ a ≤ 255) (hb : 0 ≤ b ∧ b ≤ 255) (hz : 0 ≤ z ∧ z ≤ 255) (xs es : Nat → Int) (sd : Int) (hx : ∀ i, -2147483648 ≤ xs i ∧ xs i ≤ 2147483647) (w : World) (hT : CosW w) (hF : FadeW w) :
    Calls Tryd.prog 14 #[.agg #[.int .u8 a, .int .u8 b], .agg (ag kX 75 (xF xs es sd)), .int .u8 z] w fun e w' => e = .returned (.bool true) ∧ Below w.heap.size w w' := by
  have haw := Lib.hid (fun w hT => awake26 w hT)
  have HT := Lib.hid hT
  have HF := Lib.hid hF
  have hmd := Lib.hid (fun w => lawMode a b ha hb w)
  obtain ⟨s, hs⟩ : ∃ s, a % 3 = s := ⟨_, rfl⟩
  obtain ⟨c, hc⟩ : ∃ c : Nat, b % 2 + 1 = c := ⟨(b % 2 + 1).toNat, by omega⟩
  have hs2 : 0 ≤ s ∧ s ≤ 2 := by omega
  have hc2 : 1 ≤ c ∧ c ≤ 2 := by omega
  rw [hs, hc] at hmd
  have hSm := Lib.hid (fun w => samples26 s c hs2 hc2 w)
  have hlo := Lib.hid (fun st k h hk hk2 w hT => lose_fade st s c k hs2 hc2 h hk hk2 w hT)
  have hpk := Lib.hid (fun st ch hch h32 w => peak_yes st s c ch hs2 hc2 hch h32 w)
  have hpl : ∀ w, CosW w → Calls Tryd.prog 48 #[.agg (ag kS 142 (fun _ => 0)), .agg #[.int .i64 s, .int .i64 c], .agg Tryd.zeroCells106, .agg (ag k32 64 xs), .int .u32 sd] w fun e w' => ∃ st' v, Keep s c st' ∧ st' 141 = (0 : Nat) ∧ e = .returned (.tuple #[.agg (ag kS 142 st'), v]) ∧ Below w.heap.size w w' := fun w hT => by
    refine (play_any (fun _ => 0) xs (fun _ => 0) sd Tryd.zeroCells106 s c hs2 hc2 hx (fun j hj => zeroF_at j hj) w hT).mono ?_
    rintro e w' ⟨v, rfl, -, hb⟩
    exact ⟨_, v, keep_play s hs2 c hc2 xs (fun _ => 0) (fun _ => 0) sd (fun _ _ => okE_zero) (keep_zero s c), lost_play _ _ _ _ _ _, rfl, hb⟩
  have HPL := Lib.hid hpl
  obtain ⟨n, hn⟩ : ∃ n, nOf s = n := ⟨_, rfl⟩
  have hn32 := nOf_in s
  rw [hn] at hSm hlo hpk hn32
  obtain ⟨N2, hN2⟩ : ∃ N2, n * c = N2 := ⟨_, rfl⟩
  have hN0 : 0 < N2 := by
    rw [← hN2]
    exact Nat.mul_pos (by omega) (by omega)
  have hN64 : N2 ≤ 64 := by
    rw [← hN2]
    have h1 : n ≤ 32 := by omega
    exact Nat.mul_le_mul h1 hc2.2
  rw [hN2] at hSm hlo
  have h21 : 0 ≤ z % 21 ∧ z % 21 ≤ 20 := by omega
  clear hT hF hs hc hN2 hn hx hpl
  go_enter Tryd.func14, Tryd.ntmps14
  go_upto_region 3 with (go_at_call 46; refine (haw.out _ (HF.out.below (by (repeat' (first | (with_reducible exact Below.refl _ _) | (with_reducible assumption) | (with_reducible refine Below.alloc ?_ ?_ _) | (with_reducible refine below_grew ?_ ?_ _) | (with_reducible refine Below.setCell ?_ ?_ _) | (with_reducible refine Below.drew ?_) | (with_reducible refine below_drewN ?_ _) | omega | (simp; done) | (simp; omega)))))).mono ?_; rintro e w' ⟨rfl, hb1⟩; obtain ⟨x1, rfl⟩ := below_as_grew hb1; clear hb1)
  refine cut_world (fun V => Below w.heap.size w V ∧ V.heap[w.heap.size]? = some (.cells #[.int .u8 a, .int .u8 b] 110 (0, 0)) ∧ Bx (w.heap.size + 1) TX kX 75 (xF xs es sd) V) ⟨by (repeat' (first | (with_reducible exact Below.refl _ _) | (with_reducible assumption) | (with_reducible refine Below.alloc ?_ ?_ _) | (with_reducible refine below_grew ?_ ?_ _) | (with_reducible refine Below.setCell ?_ ?_ _) | (with_reducible refine Below.drew ?_) | (with_reducible refine below_drewN ?_ _) | omega | (simp; done) | (simp; omega))), (World.grew_block _ _ _ (by simp; omega)).trans (alloc_two _ _ _), (World.grew_block _ _ _ (by simp)).trans (alloc_secondOf _ _ _)⟩ ?_
  rintro V ⟨hV, hof, hsp⟩
  have hof0 : V.cell? ⟨w.heap.size, 0, none⟩ = some (.int .u8 a) := (block_facts hof).1 0
  have hof1 : V.cell? ⟨w.heap.size, 1, none⟩ = some (.int .u8 b) := (block_facts hof).1 1
  have hof2 := (block_facts hof).2.2
  have HV := Lib.hid hV
  have HSP := Lib.hid hsp
  clear hV hof hsp
  go_upto_region 4 with (go_at_call 51; refine (hmd.out _).mono ?_; rintro e w2 ⟨rfl, hd⟩; have HD := Lib.hid hd; clear hd)
  have hws := HV.out.size
  have hws2 := HD.out.size
  refine cut_world (fun W => Below w.heap.size w W ∧ W.heap[w2.heap.size]? = some (.cells #[.int .i64 s, .int .i64 c] 60 (0, 0)) ∧ Bx (w.heap.size + 1) TX kX 75 (xF xs es sd) W) ⟨Below.trans HV.out ((Below.trans HD.out (Below.mono (B := w2.heap.size) (by (repeat' (first | (with_reducible exact Below.refl _ _) | (with_reducible assumption) | (with_reducible refine Below.alloc ?_ ?_ _) | (with_reducible refine below_grew ?_ ?_ _) | (with_reducible refine Below.setCell ?_ ?_ _) | (with_reducible refine Below.drew ?_) | (with_reducible refine below_drewN ?_ _) | omega | (simp; done) | (simp; omega)))) hws2)).mono hws), alloc_at _ _, (HSP.out.keep HD.out).keep (by (repeat' (first | (with_reducible exact Below.refl _ _) | (with_reducible assumption) | (with_reducible refine Below.alloc ?_ ?_ _) | (with_reducible refine below_grew ?_ ?_ _) | (with_reducible refine Below.setCell ?_ ?_ _) | (with_reducible refine Below.drew ?_) | (with_reducible refine below_drewN ?_ _) | omega | (simp; done) | (simp; omega))))⟩ ?_
  rintro V1 ⟨hV1, hmo1, hsp1⟩
  have hm : w.heap.size ≤ w2.heap.size := by omega
  generalize w2.heap.size = m at *
  have HV1 := Lib.hid hV1
  have HMO := Lib.hid hmo1
  have HSP1 := Lib.hid hsp1
  have hm0 : V1.cell? ⟨m, 0, none⟩ = some (.int .i64 s) := (block_facts hmo1).1 0
  have hm1 : V1.cell? ⟨m, 1, none⟩ = some (.int .i64 c) := (block_facts hmo1).1 1
  have hsd := x_seed hsp1
  clear hV1 hmo1 hsp1 hof0 hof1 hof2 hws hws2 HV HD HSP hmd
  go_wp2_with (first | (refine build_to rfl St #[] rfl (ag kS 142 (fun _ => 0)) (by kernel_rfl) ?_) | (refine build_to rfl TF #[] rfl Tryd.zeroCells106 (by kernel_rfl) ?_) | (refine load_ag rfl 93 _ rfl (w.heap.size + 1) 0 rfl k32 64 xs _ (x_nums HSP1.out) Tryd.underlying93 rfl info64' ?_))
  refine (HPL.out _ (HT.out.below HV1.out)).mono ?_
  rintro e wp ⟨st0, v, hk0, h141, rfl, hb⟩
  have HK0 := Lib.hid hk0
  have H141 := Lib.hid h141
  have hw1 := HV1.out.size
  have hwp := hb.size
  have hmp := (block_facts HMO.out).2.2
  have HWP := Lib.hid (Below.trans HV1.out (hb.mono hw1))
  have HMO2 := Lib.hid ((hb.block _ hmp).trans HMO.out)
  clear hb hk0 h141 hm0 hm1 hsd HV1 HMO HSP1
  go_upto_region 5 with (refine wpList_store_mid rfl St _ _ rfl wp.heap.size 0 (ag kS 142 st0) rfl rfl ?hth ?hin ?hon ?_; (case hth => exact there_row (alloc_at _ _) _ (zeroS_le _)); (case hin => exact infoS_ag _); (case hon => exact ag_one kS 142 _))
  obtain ⟨q1, q2⟩ := pr_new wp st0
  have hmp2 : m < wp.heap.size := by omega
  refine cut_world (fun W => LK w m wp.heap.size s c st0 W) ⟨Below.trans HWP.out (q1.mono (by omega)), hm, hmp2, (q1.block _ hmp2).trans HMO2.out, q2⟩ ?_
  clear q1 q2 HWP HMO2 hmp hmp2 hw1 hwp
  generalize wp.heap.size = sb at *
  intro V2 hV2
  have HV2 := Lib.hid hV2
  have hsz2 := hV2.size
  clear hV2
  go_upto_region 6 with (refine wpList_buildFlat rfl 86 2 4 _ rfl .i64 fadeL (by kernel_rfl) (by kernel_rfl) (by kernel_rfl) (by kernel_rfl) (by decide) (by decide) (by kernel_rfl) ?_)
  refine cut_world (fun W => LD w m sb V2.heap.size s c st0 W) ⟨HV2.out.keep (by (repeat' (first | (with_reducible exact Below.refl _ _) | (with_reducible assumption) | (with_reducible refine Below.alloc ?_ ?_ _) | (with_reducible refine below_grew ?_ ?_ _) | (with_reducible refine Below.setCell ?_ ?_ _) | (with_reducible refine Below.drew ?_) | (with_reducible refine below_drewN ?_ _) | omega | (simp; done) | (simp; omega)))), hsz2, alloc_at _ _⟩ ?_
  clear HV2 hsz2
  generalize V2.heap.size = gb at *
  intro V3 hV3
  have HV3 := Lib.hid hV3
  clear hV3
  go_wp2_with fail
  go_loopw [11] (fun cnt wr => ∃ (k : Nat) (st : Nat → Int), k ≤ (z % 21).toNat ∧ cnt = .int .i64 k ∧ LD w m sb gb s c st wr ∧ Keep s c st ∧ st 141 = k) (fun cnt _ => (z % 21).toNat - (intOf cnt).toNat)
  case atStart => exact ⟨0, st0, by omega, rfl, HV3.out, HK0.out, H141.out⟩
  case round =>
    clear HV3 HK0 H141
    obtain ⟨k, st, hk, rfl, hL, hKp, hLo⟩ := hrel
    have HL := Lib.hid hL
    have HK := Lib.hid hKp
    have HLO := Lib.hid hLo
    have hm0 := hL.lk.m0
    have hm1 := hL.lk.m1
    have hk0 : (0 : Int) ≤ k := by omega
    clear hL hKp hLo
    by_cases hlt : (k : Int) < z % 21
    · go_upto_region 10 with (first | (refine load_row_g rfl St _ rfl sb rfl _ (ag kS 142 st) (0, 0) _ HL.out.lk.st Tryd.underlying97 rfl ?hin ?_; (case hin => exact infoS_ag _)) | (refine wpList_store_mid rfl St _ _ rfl wr.heap.size 0 (ag kS 142 st) rfl rfl ?hth ?hin3 ?hon ?_; (case hth => exact there_row (alloc_at _ _) _ (zeroS_le _)); (case hin3 => exact infoS_ag _); (case hon => exact ag_one kS 142 _)))
      obtain ⟨q1, q2⟩ := pr_new wr st
      have hsw := HL.out.lk.size
      refine cut_world (fun W => LD w m sb gb s c st W ∧ Bx wr.heap.size St kS 142 st W) ⟨HL.out.keep q1, q2⟩ ?_
      clear q1 q2 HL hm0 hm1
      generalize wr.heap.size = wb at *
      rintro V4 ⟨hV4, hwb⟩
      have hm0 := hV4.lk.m0
      have hm1 := hV4.lk.m1
      have hsw2 := hV4.lk.size
      have HV4 := Lib.hid hV4
      have HWB := Lib.hid hwb
      clear hV4 hwb
      go_wp2_with (refine load_row_g rfl St _ rfl sb rfl _ (ag kS 142 st) (0, 0) _ HV4.out.lk.st Tryd.underlying97 rfl ?hin ?_; (case hin => exact infoS_ag _))
      refine (hlo.out st k HK.out HLO.out (by omega) _ (HF.out.below HV4.out.lk.below)).mono ?_
      rintro e wp ⟨A1, c1, L, rfl, hR, hLl, hle, hb⟩
      have HLE := Lib.hid hle
      have HLL := Lib.hid hLl
      have HR := Lib.hid hR
      have HLP := Lib.hid (HV4.out.keep hb)
      have HWP := Lib.hid (HWB.out.keep hb)
      have hwbp := (block_facts (HWB.out.keep hb)).2.2
      clear hb hR hLl hle HV4 HWB hm0 hm1
      obtain ⟨st', hst'⟩ : ∃ st', loseF s c st = st' := ⟨_, rfl⟩
      have HST := Lib.hid hst'
      rw [hst']
      clear hst'
      go_upto_region 12 with (refine wpList_store_mid rfl St _ _ rfl sb 0 (ag kS 142 st') rfl rfl ?hth ?hin ?hon ?_; (case hth => exact there_row HLP.out.lk.st _ (by rw [ag_size, ag_size]; exact Nat.le_refl _)); (case hin => exact infoS_ag _); (case hon => exact ag_one kS 142 _))
      refine cut_world (fun W => LD w m sb gb s c st' W ∧ Bx wb St kS 142 st W ∧ Kd.R (Kd.int .i16) 108 W V4.heap.size (fun _ => True) (.slice A1 N2 c1) L) ⟨HLP.out.only (only_setCells _ _ _ _) (cells_all HLP.out.lk.st (N := 142) (ag_size _ _ _) (ag_size _ _ _)), ((only_setCells wp sb 0 (ag kS 142 st').toList).block wb (by omega)).trans HWP.out, R_only HR.out (only_setCells _ _ _ _) hsw2⟩ ?_
      clear HLP HWP HR
      rintro V5 ⟨hV5, hwb, hR⟩
      have hC := (R_C hR).1
      rw [HLL.out] at hC
      have HC := Lib.hid hC
      have hm0 := hV5.lk.m0
      have hm1 := hV5.lk.m1
      have hmm := (block_facts hV5.lk.mo).2.2
      have r141 := ag_cell hV5.lk.st 141 (by omega)
      rw [← HST.out, lost_next s c st k HLO.out (by omega), show kS 141 = .i64 from rfl, Int.natCast_add] at r141
      have hsbb := hV5.lk.size
      have HV5 := Lib.hid hV5
      have HWB := Lib.hid hwb
      clear hV5 hwb hR hC
      go_upto_region 14 with (go_at_call 50; refine (hSm.out _).mono ?_; rintro e wq ⟨rfl, hbq⟩; have HQ := Lib.hid hbq; have hq141 := (hbq.cell (p := ⟨sb, 141, none⟩) hsbb).trans r141; clear hbq)
      refine cut_world (fun W => LD w m sb gb s c st' W ∧ Bx wb St kS 142 st W ∧ Kd.C (Kd.int .i16) W A1 N2 L) ⟨HV5.out.keep HQ.out, HWB.out.keep HQ.out, Kd.C_below HC.out HQ.out⟩ ?_
      clear hq141 r141 hm0 hm1 HV5 HWB HC HQ hmm hsbb
      rintro V6 ⟨hV6, hwb, hC⟩
      obtain ⟨a1, rfl, -⟩ := Kd.at_int hC 0 (by omega) (by omega)
      have HV6 := Lib.hid hV6
      have HWB := Lib.hid hwb
      have HC := Lib.hid hC
      clear hV6 hwb hC
      go_wp2_with fail
      go_loopw [61] (fun cnt wr => ∃ i : Nat, i ≤ N2 ∧ cnt = .int .i64 i ∧ Below V6.heap.size V6 wr) (fun cnt _ => N2 - (intOf cnt).toNat)
      case atStart => exact ⟨0, by omega, rfl, Below.refl _ _⟩
      case round =>
        obtain ⟨i, hi, rfl, hbw⟩ := hrel
        have HBW := Lib.hid hbw
        have hi0 : (0 : Int) ≤ i := by omega
        clear hbw
        by_cases hil : i < N2
        · have hil' : (i : Int) < N2 := by omega
          obtain ⟨ad, he, z1⟩ := Kd.at_int (Kd.C_below HC.out HBW.out) i hi0 (by omega)
          obtain rfl := Option.some.inj he
          rw [Int.toNat_natCast] at z1
          have hx := HLE.out i hil
          obtain ⟨x, hxe⟩ : ∃ x, rd L (i : Int) = x := ⟨_, rfl⟩
          have hmb := most_bd n st (i % c) k
          obtain ⟨M, hM⟩ : ∃ M, mostF n st (i % c) k = M := ⟨_, rfl⟩
          rw [hxe, hM] at hx
          rw [hM] at hmb
          rw [hxe] at z1
          have HM := Lib.hid hM
          have hwn : wrap64 (-x) = -x := by unfold wrap64; omega
          have hwx : wrap64 x = x := by unfold wrap64; omega
          have hx1 : ¬ (M < x) := by omega
          have hx2 : ¬ (M < -x) := by omega
          have HXE := Lib.hid hxe
          clear he hxe hM hx hmb
          go_upto_region 18 with fail
          clear z1
          by_cases hk4 : k < 4
          · have hk4' : (k : Int) < 4 := by omega
            have hlb := HV6.out.keep HBW.out
            have hm0 := hlb.lk.m0
            have hm1 := hlb.lk.m1
            have hmm := (block_facts hlb.lk.mo).2.2
            have hwbk := HWB.out.keep HBW.out
            have hgg := (block_facts hlb.gg).1 k
            rw [fadeL_at k hk4] at hgg
            have hggs := (block_facts hlb.gg).2.2
            have HWB2 := Lib.hid hwbk
            have hpk2 := fun w => hpk.out st (i % c) (Nat.mod_lt _ (by omega)) HK.out.2 w
            have hic : ((i % c : Nat) : Int) = (i : Int) % (c : Int) := Int.natCast_emod i c
            rw [hic] at hpk2
            have HPK := Lib.hid hpk2
            obtain ⟨pk, hpke⟩ : ∃ pk, min (pkTo st (i % c) n) 2147483647 = pk := ⟨_, rfl⟩
            obtain ⟨fd, hfd⟩ : ∃ fd, fadeF ((k : Int) + 1) = fd := ⟨_, rfl⟩
            have hpn := pk_nn st (i % c) n
            have hfb := fadeF_bd ((k : Int) + 1)
            have hpb : 0 ≤ pk ∧ pk ≤ 2147483647 := by omega
            have hmul : wrap64 (pk * fd) = pk * fd := by
              have h1 : 0 ≤ pk * fd := Int.mul_nonneg hpb.1 (by omega)
              have h2 : pk * fd ≤ 2147483647 * 29491 := Int.mul_le_mul hpb.2 (by omega) (by omega) (by omega)
              unfold wrap64; omega
            have hMM : (pk * fd).tdiv 32768 = M := by
              rw [← HM.out]
              unfold mostF
              rw [if_pos hk4, hpke, hfd]
            rw [hpke] at HPK
            rw [hfd] at hgg
            have HMM := Lib.hid hMM
            have HMUL := Lib.hid hmul
            have HPB := Lib.hid hpb
            have HMB := Lib.hid (by have := most_bd n st (i % c) k; rw [HM.out] at this; exact this)
            clear hmul
            have hc0 : ¬ (c : Nat) = 0 := by omega
            have hc0' : (c : Int) ≠ 0 := by omega
            clear hx1 hx2 hwn hwx
            clear hlb hpk2 hpke hfd hMM hic hfb hpn hwbk hk4
            go_upto_region 19 with fail
            have HPP := Lib.hid (And.intro hi (And.intro hil (And.intro hlt hk)))
            clear hi hil hil' hlt hk hpb
            refine wp_region_inv [] (fun W => Below wr.heap.size wr W) (fun W W' => Below W.heap.size W W') 14 (by kernel_rfl) (by kernel_rfl) (by kernel_rfl) ((Below.refl _ _).drew) (fun W W' h h' => h.trans (h'.mono h.size)) (fun _ _ h => h.size) ?_
            simp only [List.take_succ_cons, List.take_zero, List.drop_succ_cons, List.drop_zero]
            refine wpInv_det (by kernel_rfl) (by kernel_rfl) ?_
            apply Exists.intro
            refine ⟨?_, ?_, ?_⟩
            · intro U W hC hH
              have hc1 := (bcell hC).1
              have hf1 := (bcell hC).2
              simp only [HypsU, predsOf, Region.binds, List.filterMap_cons, List.filterMap_nil, if_true, List.nil_append, List.cons_append, List.getD_cons_zero, List.getD_cons_succ] at hH
              simp only [fillPuts, Act.put, List.setIfInBounds_toArray, List.set_cons_zero, List.set_cons_succ, Nat.reduceAdd]
              refine load_row_g rfl St _ rfl wb rfl _ (ag kS 142 st) (0, 0) _ (HWB2.out.keep hC) Tryd.underlying97 rfl (infoS_ag _) ?_; go_wp2_with fail
              refine ⟨rfl, rfl, by (repeat' (first | (with_reducible exact Below.refl _ _) | (with_reducible assumption) | (with_reducible refine Below.alloc ?_ ?_ _) | (with_reducible refine below_grew ?_ ?_ _) | (with_reducible refine Below.setCell ?_ ?_ _) | (with_reducible refine Below.drew ?_) | (with_reducible refine below_drewN ?_ _) | omega | (simp; done) | (simp; omega))), ?_⟩
              conv => lhs; whnf
              try rfl
            · exact fun _ => rfl
            simp only [List.nil_append, List.cons_append, Nat.reduceAdd]
            refine wpInv_det (by kernel_rfl) (by kernel_rfl) ?_
            apply Exists.intro
            refine ⟨?_, ?_, ?_⟩
            · intro U W hC hH
              have hc1 := (bcell hC).1
              have hf1 := (bcell hC).2
              simp only [HypsU, predsOf, Region.binds, List.filterMap_cons, List.filterMap_nil, if_true, List.nil_append, List.cons_append, List.getD_cons_zero, List.getD_cons_succ] at hH
              simp only [fillPuts, Act.put, List.setIfInBounds_toArray, List.set_cons_zero, List.set_cons_succ, Nat.reduceAdd]
              go_wp2_with fail
              refine ⟨rfl, rfl, by (repeat' (first | (with_reducible exact Below.refl _ _) | (with_reducible assumption) | (with_reducible refine Below.alloc ?_ ?_ _) | (with_reducible refine below_grew ?_ ?_ _) | (with_reducible refine Below.setCell ?_ ?_ _) | (with_reducible refine Below.drew ?_) | (with_reducible refine below_drewN ?_ _) | omega | (simp; done) | (simp; omega))), ?_⟩
              conv => lhs; whnf
              try rfl
            · exact fun _ => rfl
            simp only [List.nil_append, List.cons_append, Nat.reduceAdd]
            refine wpInv_det (by kernel_rfl) (by kernel_rfl) ?_
            apply Exists.intro
            refine ⟨?_, ?_, ?_⟩
            · intro U W hC hH
              have hc1 := (bcell hC).1
              have hf1 := (bcell hC).2
              simp only [HypsU, predsOf, Region.binds, List.filterMap_cons, List.filterMap_nil, if_true, List.nil_append, List.cons_append, List.getD_cons_zero, List.getD_cons_succ] at hH
              simp only [fillPuts, Act.put, List.setIfInBounds_toArray, List.set_cons_zero, List.set_cons_succ, Nat.reduceAdd]
              go_wp2_with fail
              refine ⟨rfl, rfl, by (repeat' (first | (with_reducible exact Below.refl _ _) | (with_reducible assumption) | (with_reducible refine Below.alloc ?_ ?_ _) | (with_reducible refine below_grew ?_ ?_ _) | (with_reducible refine Below.setCell ?_ ?_ _) | (with_reducible refine Below.drew ?_) | (with_reducible refine below_drewN ?_ _) | omega | (simp; done) | (simp; omega))), ?_⟩
              conv => lhs; whnf
              try rfl
            · exact fun _ => rfl
            simp only [List.nil_append, List.cons_append, Nat.reduceAdd]
            refine wpInv_det (by kernel_rfl) (by kernel_rfl) ?_
            apply Exists.intro
            refine ⟨?_, ?_, ?_⟩
            · intro U W hC hH
              have hc1 := (bcell hC).1
              have hf1 := (bcell hC).2
              simp only [HypsU, predsOf, Region.binds, List.filterMap_cons, List.filterMap_nil, if_true, List.nil_append, List.cons_append, List.getD_cons_zero, List.getD_cons_succ] at hH
              simp only [fillPuts, Act.put, List.setIfInBounds_toArray, List.set_cons_zero, List.set_cons_succ, Nat.reduceAdd]
              go_wp2_with fail
              refine ⟨rfl, rfl, by (repeat' (first | (with_reducible exact Below.refl _ _) | (with_reducible assumption) | (with_reducible refine Below.alloc ?_ ?_ _) | (with_reducible refine below_grew ?_ ?_ _) | (with_reducible refine Below.setCell ?_ ?_ _) | (with_reducible refine Below.drew ?_) | (with_reducible refine below_drewN ?_ _) | omega | (simp; done) | (simp; omega))), ?_⟩
              conv => lhs; whnf
              try rfl
            · exact fun _ => rfl
            simp only [List.nil_append, List.cons_append, Nat.reduceAdd]
            refine wpInv_det (by kernel_rfl) (by kernel_rfl) ?_
            apply Exists.intro
            refine ⟨?_, ?_, ?_⟩
            · intro U W hC hH
              have hc1 := (bcell hC).1
              have hf1 := (bcell hC).2
              simp only [HypsU, predsOf, Region.binds, List.filterMap_cons, List.filterMap_nil, if_true, List.nil_append, List.cons_append, List.getD_cons_zero, List.getD_cons_succ] at hH
              simp only [fillPuts, Act.put, List.setIfInBounds_toArray, List.set_cons_zero, List.set_cons_succ, Nat.reduceAdd]
              go_wp2_with fail
              refine ⟨rfl, rfl, by (repeat' (first | (with_reducible exact Below.refl _ _) | (with_reducible assumption) | (with_reducible refine Below.alloc ?_ ?_ _) | (with_reducible refine below_grew ?_ ?_ _) | (with_reducible refine Below.setCell ?_ ?_ _) | (with_reducible refine Below.drew ?_) | (with_reducible refine below_drewN ?_ _) | omega | (simp; done) | (simp; omega))), ?_⟩
              conv => lhs; whnf
              try rfl
            · exact fun _ => rfl
            simp only [List.nil_append, List.cons_append, Nat.reduceAdd]
            refine wpInv_det (by kernel_rfl) (by kernel_rfl) ?_
            apply Exists.intro
            refine ⟨?_, ?_, ?_⟩
            · intro U W hC hH
              have hc1 := (bcell hC).1
              have hf1 := (bcell hC).2
              simp only [HypsU, predsOf, Region.binds, List.filterMap_cons, List.filterMap_nil, if_true, List.nil_append, List.cons_append, List.getD_cons_zero, List.getD_cons_succ] at hH
              simp only [fillPuts, Act.put, List.setIfInBounds_toArray, List.set_cons_zero, List.set_cons_succ, Nat.reduceAdd]
              go_wp2_with fail
              refine ⟨rfl, rfl, by (repeat' (first | (with_reducible exact Below.refl _ _) | (with_reducible assumption) | (with_reducible refine Below.alloc ?_ ?_ _) | (with_reducible refine below_grew ?_ ?_ _) | (with_reducible refine Below.setCell ?_ ?_ _) | (with_reducible refine Below.drew ?_) | (with_reducible refine below_drewN ?_ _) | omega | (simp; done) | (simp; omega))), ?_⟩
              conv => lhs; whnf
              try rfl
            · exact fun _ => rfl
            simp only [List.nil_append, List.cons_append, Nat.reduceAdd]
            refine wpInv_det (by kernel_rfl) (by kernel_rfl) ?_
            apply Exists.intro
            refine ⟨?_, ?_, ?_⟩
            · intro U W hC hH
              have hc1 := (bcell hC).1
              have hf1 := (bcell hC).2
              simp only [HypsU, predsOf, Region.binds, List.filterMap_cons, List.filterMap_nil, if_true, List.nil_append, List.cons_append, List.getD_cons_zero, List.getD_cons_succ] at hH
              simp only [fillPuts, Act.put, List.setIfInBounds_toArray, List.set_cons_zero, List.set_cons_succ, Nat.reduceAdd]
              go_wp2_with fail; refine (HPK.out _).mono ?_; rintro e w' ⟨rfl, hb1⟩; obtain ⟨x1, rfl⟩ := below_as_grew hb1; clear hb1; go_wp2_with fail
              refine ⟨rfl, rfl, by (repeat' (first | (with_reducible exact Below.refl _ _) | (with_reducible assumption) | (with_reducible refine Below.alloc ?_ ?_ _) | (with_reducible refine below_grew ?_ ?_ _) | (with_reducible refine Below.setCell ?_ ?_ _) | (with_reducible refine Below.drew ?_) | (with_reducible refine below_drewN ?_ _) | omega | (simp; done) | (simp; omega))), ?_⟩
              conv => lhs; whnf
              try rfl
            · exact fun _ => rfl
            simp only [List.nil_append, List.cons_append, Nat.reduceAdd]
            refine wpInv_det (by kernel_rfl) (by kernel_rfl) ?_
            apply Exists.intro
            refine ⟨?_, ?_, ?_⟩
            · intro U W hC hH
              have hc1 := (bcell hC).1
              have hf1 := (bcell hC).2
              simp only [HypsU, predsOf, Region.binds, List.filterMap_cons, List.filterMap_nil, if_true, List.nil_append, List.cons_append, List.getD_cons_zero, List.getD_cons_succ] at hH
              simp only [fillPuts, Act.put, List.setIfInBounds_toArray, List.set_cons_zero, List.set_cons_succ, Nat.reduceAdd]
              go_wp2_with fail
              refine ⟨rfl, rfl, by (repeat' (first | (with_reducible exact Below.refl _ _) | (with_reducible assumption) | (with_reducible refine Below.alloc ?_ ?_ _) | (with_reducible refine below_grew ?_ ?_ _) | (with_reducible refine Below.setCell ?_ ?_ _) | (with_reducible refine Below.drew ?_) | (with_reducible refine below_drewN ?_ _) | omega | (simp; done) | (simp; omega))), ?_⟩
              conv => lhs; whnf
              try rfl
            · exact fun _ => rfl
            simp only [List.nil_append, List.cons_append, Nat.reduceAdd]
            refine wpInv_det (by kernel_rfl) (by kernel_rfl) ?_
            apply Exists.intro
            refine ⟨?_, ?_, ?_⟩
            · intro U W hC hH
              have hc1 := (bcell hC).1
              have hf1 := (bcell hC).2
              simp only [HypsU, predsOf, Region.binds, List.filterMap_cons, List.filterMap_nil, if_true, List.nil_append, List.cons_append, List.getD_cons_zero, List.getD_cons_succ] at hH
              simp only [fillPuts, Act.put, List.setIfInBounds_toArray, List.set_cons_zero, List.set_cons_succ, Nat.reduceAdd]
              go_wp2_with fail
              refine ⟨rfl, rfl, by (repeat' (first | (with_reducible exact Below.refl _ _) | (with_reducible assumption) | (with_reducible refine Below.alloc ?_ ?_ _) | (with_reducible refine below_grew ?_ ?_ _) | (with_reducible refine Below.setCell ?_ ?_ _) | (with_reducible refine Below.drew ?_) | (with_reducible refine below_drewN ?_ _) | omega | (simp; done) | (simp; omega))), ?_⟩
              conv => lhs; whnf
              try rfl
            · exact fun _ => rfl
            simp only [List.nil_append, List.cons_append, Nat.reduceAdd]
            refine wpInv_det (by kernel_rfl) (by kernel_rfl) ?_
            apply Exists.intro
            refine ⟨?_, ?_, ?_⟩
            · intro U W hC hH
              have hc1 := (bcell hC).1
              have hf1 := (bcell hC).2
              simp only [HypsU, predsOf, Region.binds, List.filterMap_cons, List.filterMap_nil, if_true, List.nil_append, List.cons_append, List.getD_cons_zero, List.getD_cons_succ] at hH
              simp only [fillPuts, Act.put, List.setIfInBounds_toArray, List.set_cons_zero, List.set_cons_succ, Nat.reduceAdd]
              go_wp2_with fail
              refine ⟨rfl, rfl, by (repeat' (first | (with_reducible exact Below.refl _ _) | (with_reducible assumption) | (with_reducible refine Below.alloc ?_ ?_ _) | (with_reducible refine below_grew ?_ ?_ _) | (with_reducible refine Below.setCell ?_ ?_ _) | (with_reducible refine Below.drew ?_) | (with_reducible refine below_drewN ?_ _) | omega | (simp; done) | (simp; omega))), ?_⟩
              conv => lhs; whnf
              try rfl
            · exact fun _ => rfl
            simp only [List.nil_append, List.cons_append, Nat.reduceAdd]
            refine wpInv_det (by kernel_rfl) (by kernel_rfl) ?_
            apply Exists.intro
            refine ⟨?_, ?_, ?_⟩
            · intro U W hC hH
              have hc1 := (bcell hC).1
              have hf1 := (bcell hC).2
              simp only [HypsU, predsOf, Region.binds, List.filterMap_cons, List.filterMap_nil, if_true, List.nil_append, List.cons_append, List.getD_cons_zero, List.getD_cons_succ] at hH
              simp only [fillPuts, Act.put, List.setIfInBounds_toArray, List.set_cons_zero, List.set_cons_succ, Nat.reduceAdd]
              go_wp2_with fail
              refine ⟨rfl, rfl, by (repeat' (first | (with_reducible exact Below.refl _ _) | (with_reducible assumption) | (with_reducible refine Below.alloc ?_ ?_ _) | (with_reducible refine below_grew ?_ ?_ _) | (with_reducible refine Below.setCell ?_ ?_ _) | (with_reducible refine Below.drew ?_) | (with_reducible refine below_drewN ?_ _) | omega | (simp; done) | (simp; omega))), ?_⟩
              conv => lhs; whnf
              try rfl
            · exact fun _ => rfl
            simp only [List.nil_append, List.cons_append, Nat.reduceAdd]
            refine wpInv_det (by kernel_rfl) (by kernel_rfl) ?_
            apply Exists.intro
            refine ⟨?_, ?_, ?_⟩
            · intro U W hC hH
              have hc1 := (bcell hC).1
              have hf1 := (bcell hC).2
              simp only [HypsU, predsOf, Region.binds, List.filterMap_cons, List.filterMap_nil, if_true, List.nil_append, List.cons_append, List.getD_cons_zero, List.getD_cons_succ] at hH
              simp only [fillPuts, Act.put, List.setIfInBounds_toArray, List.set_cons_zero, List.set_cons_succ, Nat.reduceAdd]
              go_wp2_with fail
              refine ⟨rfl, rfl, by (repeat' (first | (with_reducible exact Below.refl _ _) | (with_reducible assumption) | (with_reducible refine Below.alloc ?_ ?_ _) | (with_reducible refine below_grew ?_ ?_ _) | (with_reducible refine Below.setCell ?_ ?_ _) | (with_reducible refine Below.drew ?_) | (with_reducible refine below_drewN ?_ _) | omega | (simp; done) | (simp; omega))), ?_⟩
              conv => lhs; whnf
              try rfl
            · exact fun _ => rfl
            simp only [List.nil_append, List.cons_append, Nat.reduceAdd]
            refine wpInv_det (by kernel_rfl) (by kernel_rfl) ?_
            apply Exists.intro
            refine ⟨?_, ?_, ?_⟩
            · intro U W hC hH
              have hc1 := (bcell hC).1
              have hf1 := (bcell hC).2
              simp only [HypsU, predsOf, Region.binds, List.filterMap_cons, List.filterMap_nil, if_true, List.nil_append, List.cons_append, List.getD_cons_zero, List.getD_cons_succ] at hH
              simp only [fillPuts, Act.put, List.setIfInBounds_toArray, List.set_cons_zero, List.set_cons_succ, Nat.reduceAdd]
              go_wp2_with fail
              refine ⟨rfl, rfl, by (repeat' (first | (with_reducible exact Below.refl _ _) | (with_reducible assumption) | (with_reducible refine Below.alloc ?_ ?_ _) | (with_reducible refine below_grew ?_ ?_ _) | (with_reducible refine Below.setCell ?_ ?_ _) | (with_reducible refine Below.drew ?_) | (with_reducible refine below_drewN ?_ _) | omega | (simp; done) | (simp; omega))), ?_⟩
              conv => lhs; whnf
              try rfl
            · exact fun _ => rfl
            simp only [List.nil_append, List.cons_append, Nat.reduceAdd]
            refine wpInv_det (by kernel_rfl) (by kernel_rfl) ?_
            apply Exists.intro
            refine ⟨?_, ?_, ?_⟩
            · intro U W hC hH
              have hc1 := (bcell hC).1
              have hf1 := (bcell hC).2
              simp only [HypsU, predsOf, Region.binds, List.filterMap_cons, List.filterMap_nil, if_true, List.nil_append, List.cons_append, List.getD_cons_zero, List.getD_cons_succ] at hH
              simp only [fillPuts, Act.put, List.setIfInBounds_toArray, List.set_cons_zero, List.set_cons_succ, Nat.reduceAdd]
              go_wp2_with fail
              refine ⟨rfl, rfl, by (repeat' (first | (with_reducible exact Below.refl _ _) | (with_reducible assumption) | (with_reducible refine Below.alloc ?_ ?_ _) | (with_reducible refine below_grew ?_ ?_ _) | (with_reducible refine Below.setCell ?_ ?_ _) | (with_reducible refine Below.drew ?_) | (with_reducible refine below_drewN ?_ _) | omega | (simp; done) | (simp; omega))), ?_⟩
              conv => lhs; whnf
              try rfl
            · exact fun _ => rfl
            simp only [List.nil_append, List.cons_append, Nat.reduceAdd]
            simp only [List.nil_append, List.cons_append, Nat.reduceAdd, fillPuts, Act.put, List.setIfInBounds_toArray, List.set_cons_zero, List.set_cons_succ]
            rintro U W hC ⟨h0, h1, h2, h3, h4, h5, h6, h7, h8, h9, h10, h11, h12, h13, -⟩ -
            simp only [h0, h1, h2, h3, h4, h5, h6, h7, h8, h9, h10, h11, h12, h13]
            have hpw : wrap64 pk = pk := by have := HPB.out; unfold wrap64; omega
            have hMv : wrap64 ((wrap64 (wrap64 pk * fd)).tdiv 32768) = M := by
              rw [hpw, HMUL.out, HMM.out]
              have := HMB.out
              unfold wrap64; omega
            rw [hMv]
            have HBW2 := Lib.hid (HBW.out.trans (hC.mono HBW.out.size))
            have HIL := Lib.hid HPP.out.2.1
            clear h0 h1 h2 h3 h4 h5 h6 h7 h8 h9 h10 h11 h12 h13 hC hpw hMv HBW hm0 hm1 hmm hgg hggs hc0 hc0' HWB2 HPK
            go_upto_region 20 with fail
            have hi := HPP.out.1
            have hlt := HPP.out.2.2.1
            have hk := HPP.out.2.2.2
            have hx := HLE.out i HIL.out
            rw [HXE.out, HM.out] at hx
            have hmb := HMB.out
            have hwn : wrap64 (-x) = -x := by unfold wrap64; omega
            have hwx : wrap64 x = x := by unfold wrap64; omega
            have hx1 : ¬ (M < x) := by omega
            have hx2 : ¬ (M < -x) := by omega
            have hx3 : ¬ (x < -M) := by omega
            clear hx hmb
            go_upto_region 22 with fail
            refine cut_world (fun W => Below V6.heap.size V6 W) HBW2.out ?_
            clear HBW2
            intro V7 hV7
            have HV7 := Lib.hid hV7
            clear hV7 hx1 hx2 hx3 hwn hwx
            go_wp2_with fail
            go_roundw
            case rel => exact ⟨i + 1, HIL.out, rfl, HV7.out⟩
            case measure => have := HIL.out; simp [intOf]; omega
          · have hk4' : ¬ (k : Int) < 4 := by omega
            have hM0 : M = 0 := by
              rw [← HM.out]
              unfold mostF
              rw [if_neg hk4]
            subst hM0
            clear hk4
            go_upto_region 20 with fail
            have HIL := Lib.hid hil
            clear hk4' hil' hil
            have hx3 : ¬ x < 0 := by omega
            go_upto_region 22 with fail
            refine cut_world (fun W => Below V6.heap.size V6 W) HBW.out ?_
            clear HBW
            intro V7 hV7
            have HV7 := Lib.hid hV7
            clear hV7 hx1 hx2 hwn hwx hx3
            go_wp2_with fail
            go_roundw
            case rel => exact ⟨i + 1, HIL.out, rfl, HV7.out⟩
            case measure => have := HIL.out; simp [intOf]; omega
        · have hil' : ¬ (i : Int) < N2 := by omega
          clear hil
          go_wp2_with fail
          go_roundw
          case rel => exact ⟨k + 1, st', by omega, rfl, HV6.out.keep HBW.out, by rw [← HST.out]; exact keep_lose s hs2 c hc2 st HK.out, by rw [← HST.out]; exact lost_next s c st k HLO.out (by omega)⟩
          case measure => simp [intOf]; omega
    · clear hk
      go_wp2_with fail
      go_ret
      exact ⟨rfl, HL.out.lk.below⟩
end Go.Proofs.YtcibajleknhklaaDoor
end

section
namespace Go
open Go.RowKit Go.ChangeShapes Go.WideShapes
/-- All arguments read again. -/
theorem trodAll_below {H : Type} {enc : TypeId × Value → H} {P : Program} (hl : laidOutB P = true) {W W' : World} (hb : Below W.heap.size W W') :
    ∀ (ts : List TypeId) (vs : List Value) (ds : List (DataW H)) (ps : List MemPlace), (ts.all fun t => P.readableRec t && decide (t < P.types.size)) = true →
      DataW.TrodAll enc P W 0 (fun _ => true) true ts vs ds ps → (∀ x ∈ ps, x.block < W.heap.size) → DataW.TrodAll enc P W' 0 (fun b => decide (b < W.heap.size)) true ts vs ds ps
  | [], vs, ds, ps, _, h, _ => by
    obtain ⟨rfl, rfl, rfl⟩ := trodAll_nil h
    exact trodAll_mk0
  | t :: ts, vs, ds, ps, hr, h, hlt => by
    simp only [List.all_cons, Bool.and_eq_true, decide_eq_true_eq] at hr
    obtain ⟨v, vs', d, ds', p, q, rfl, rfl, rfl, h1, h2⟩ := trodAll_cons h
    exact trodAll_cons_mk (Below.trod hl hr.1.1 hr.1.2 h1 hb (fun x hx => hlt x (List.mem_append_left _ hx))) (trodAll_below hl hb ts vs' ds' q hr.2 h2 (fun x hx => hlt x (List.mem_append_right _ hx)))
end Go
end

section
namespace Go.Proofs.YtcibajleknhklaaDoor
open Go.RowKit
theorem fades_of {W : World} {rest : List (String × DataW Unit)} (h : laidMet Tryd.prog (("spinet/conceal.fades", Rows.laid_spinet_conceal_fades) :: rest) W) : FadeW W := by
  have hT := Lib.tabIs_of_head (P := Tryd.prog) (g := 2) (t := 214) (e := 21) (n := 5) (k := .i32) (zs := fadL) (by kernel_rfl) (by kernel_rfl) Tryd.underlying214 Tryd.underlying21 (by kernel_rfl) (by kernel_rfl) h
  have hc := fun i hi => hT.cell (g := 2) (by kernel_rfl) i hi
  exact ⟨World.block_lt_of_cell? W ⟨2, 0, none⟩ (hc 0 (by decide)), hc⟩
end Go.Proofs.YtcibajleknhklaaDoor
end

section
namespace Go.Proofs.YtcibajleknhklaaDoor
open Go.RowKit
theorem cosines_of {W : World} {rest : List (String × DataW Unit)} (h : laidMet Tryd.prog (("spinet/cis.cosines", Rows.laid_spinet_cis_cosines) :: rest) W) : CosW W := by
  have hT := Lib.tabIs_of_head (P := Tryd.prog) (g := 0) (t := 207) (e := 2) (n := 65) (k := .i64) (zs := cosL) (by kernel_rfl) (by kernel_rfl) Tryd.underlying207 Tryd.underlying2 (by kernel_rfl) (by kernel_rfl) h
  have hc := fun i hi => hT.cell (g := 0) (by kernel_rfl) i hi
  exact ⟨World.block_lt_of_cell? W ⟨0, 0, none⟩ (hc 0 (by decide)), hc⟩
end Go.Proofs.YtcibajleknhklaaDoor
end

section
namespace Go.Proofs.YtcibajleknhklaaDoor
open Go.ChangeShapes Go.WideShapes Go.ChangeAt Go.WideMaps Go.WideElems Go.RowKit
set_option maxRecDepth 100000 in
theorem stateFades_lifted (os : Os) (started : os.Started) (H : Type) (enc : TypeId × Value → H) :
    ReturnsInHanded {} Tryd.checked os 14 .any (fun w args => (Rows.stateFadesSpec.pre enc Tryd.prog Tryd.f14 [] false w args ∧ laidMetH Tryd.prog Rows.stateFadesRow.laid w) ∧ sizedMet enc Tryd.prog Tryd.f14 (OpenSpec.ofChange Rows.stateFadesSpec) false w args)
      (Rows.stateFadesSpec.post enc Tryd.prog Tryd.f14 false true false false) := by
  refine returnsInHanded_of_change_and (C := Tryd.checked) (X := fun w _ => laidMetH Tryd.prog Rows.stateFadesRow.laid w) (fun _ _ _ hh h => h.of_heap hh) (by kernel_rfl) started (by kernel_rfl) Tryd.func14
    (ChangeSpec.witness_shaped (enc := enc) (C := Tryd.checked) (os := os) (X := fun w _ => laidMetH Tryd.prog Rows.stateFadesRow.laid w) false (World.doorLaid Tryd.prog 400 os) #[.agg #[.int .u8 0, .int .u8 0], .agg (ag kX 75 (fun _ => 0)), .int .u8 0] 8 rfl (World.shaped_of_RefB (by kernel_rfl) (by kernel_rfl)) (by kernel_rfl) (by kernel_rfl) (by kernel_rfl)
      (laidMetH_of_parts3 (fuel := 8) (laidMet_of_run' 8 (by kernel_rfl) (by kernel_rfl)) (by kernel_rfl) (by kernel_rfl))) ?_
  intro W base args ds gs before hval0 hW _ _ hL _
  have hval : ∀ (j : Nat) t v, Tryd.f14.params[j]? = some t → args[j]? = some v → Value.okWide Tryd.prog W .any base t v := hval0
  have hW' := hW
  obtain ⟨p, q, hA0, hV, rfl, hfz, hnd⟩ := hW
  have hA : DataW.TrodAll enc Tryd.prog W 0 (fun _ => true) true Tryd.f14.params.toList args.toList ds p := hA0
  have hA2 := hA
  rw [Tryd.params14] at hA hval
  obtain ⟨v0, v1, v2, d0, d1, d2, p0, p1, p2, rfl, rfl, hp, h0, h1, h2⟩ := trodAll_three hA
  obtain ⟨rfl, rfl⟩ := trodVars_none hV
  obtain ⟨ds0, rfl, hfit0⟩ := open_flat 3 [.int .u8, .int .u8] (by kernel_rfl) (by kernel_rfl) (hval 0 110 v0 rfl rfl) h0
  obtain ⟨a, cs1, rfl, wa, hfit0⟩ := fitAllW_int hfit0
  obtain ⟨b, cs2, rfl, wb, hfit0⟩ := fitAllW_int hfit0
  obtain rfl := fitAllW_nil hfit0
  obtain ⟨z, rfl, rfl, hp2, wz⟩ := open_int Tryd.underlying5 (hval 2 5 v2 rfl rfl) h2
  obtain ⟨cx, hcx, hfitx⟩ := open_flat 4 ((List.range 75).map fun i => Leaf.int (kX i)) (by kernel_rfl) (by kernel_rfl) (hval 1 99 v1 rfl rfl) h1
  obtain ⟨X, hX, hwX⟩ := ag_of_fit kX 75 cx hfitx
  rw [hX] at hcx
  subst hcx
  have eX : ag kX 75 X = ag kX 75 (xF (fun i => if i < 64 then X i else 0) (fun i => X (64 + i)) (X 74)) := ag_ext kX 75 _ _ fun i hi => by
    unfold xF
    dsimp only
    by_cases e1 : i < 64
    · rw [if_pos e1, if_pos e1]
    · rw [if_neg e1]
      by_cases e2 : i < 74
      · rw [if_pos e2]; congr 1; omega
      · rw [if_neg e2]; congr 1; omega
  rw [MakeChecks.laidMetH_plain _ _ _ (by kernel_rfl)] at hL
  have hF : FadeW W := fades_of hL
  have hT : CosW W := cosines_of (laidMet.tail (x := ("spinet/conceal.fades", Rows.laid_spinet_conceal_fades)) (r := [("spinet/cis.cosines", Rows.laid_spinet_cis_cosines)]) hL)
  simp only [List.append_nil] at hW'
  rw [eX]
  refine (fades_any a b z (wf_u8 wa) (wf_u8 wb) (wf_u8 wz) (fun i => if i < 64 then X i else 0) (fun i => X (64 + i)) (X 74) (fun i => ?_) W hT hF).mono fun e W' ⟨he, hb⟩ => ?_
  · split
    · have := hwX i (by omega)
      rw [show kX i = .i32 from by unfold kX; rw [if_pos (by omega)]] at this
      exact wf_i32 this
    · omega
  subst he
  have e1 : Rows.stateFadesSpec.fn H ([d0, d1, .lit (.int .u8 z)] ++ []) = { results := [.lit (.bool true)], args := [d0, d1, .lit (.int .u8 z)] } := by simp [Rows.stateFadesSpec]
  refine ⟨_, rfl, _, _, _, [], p, [], hW', ?_, ?_, ?_, hb.frame _, fun h => by cases h⟩
  · rw [e1]; exact trodAll_mk1 (shut_bool Tryd.underlying4 _)
  · rw [e1]; exact trodAll_below (by kernel_rfl) hb _ _ _ _ (by kernel_rfl) hA2 (fun x hx => by simpa using hW'.lt x (by simpa using hx))
  · rw [e1]; rfl
theorem stateFades_holds : Rows.StateFadesSaid :=
  OpenClaim.holds_of_wide 14 Tryd.f14 rfl rfl rfl rfl rfl rfl rfl ⟨rfl, rfl, rfl, rfl, rfl⟩ rfl rfl rfl rfl rfl (by kernel_rfl) Tryd.func14 (by kernel_rfl)
    (of_decide_eq_true (by kernel_rfl)) (by unfold Func.isWrapper; rw [if_neg (of_decide_eq_false (by kernel_rfl))]; exact ⟨rfl, rfl⟩)
    (fun os started H enc _ => stateFades_lifted os started H enc)
theorem stateFades_card : Rows.StateFadesCardSaid :=
  Claim7.holds_tied_plain_at .later [] [.data, .data] true (true, "ae348317897b4f8711de699b2180ffb779772e4703cfa942f657876935132cc0") false
    stateFades_holds (fun _ h => by cases h) (by kernel_rfl) (fun _ h => by cases h) stateFades_row_tie rfl ⟨rfl, rfl⟩ (by kernel_rfl) rfl
    (fun f fn hf hfn => by
      obtain rfl : f = 14 := Option.some.inj ((show Tryd.prog.funcNamed "spinet/spinetlaw26.StateFades" = some 14 by kernel_rfl).symm.trans hf) |>.symm
      obtain rfl : fn = Tryd.f14 := (Option.some.inj (Tryd.func14.symm.trans hfn)).symm
      exact ⟨by kernel_rfl, fun j t ht => by
        rw [Tryd.params14] at ht
        have hm : t ∈ [110, 99, 5] := by simpa using Array.mem_of_getElem? ht
        have hall : ([110, 99, 5].all fun u => !Tryd.prog.wantsStandIn u) = true := by kernel_rfl
        exact (show Tryd.prog.wantsStandIn t = false by simpa using List.all_eq_true.1 hall t (by simpa using hm))⟩)
    (by kernel_rfl)
end Go.Proofs.YtcibajleknhklaaDoor
end

