/-
  slices.Clone of bytes, and reader.New.
  (One text out of these parts: RankU, RankB, RankC, Rdr, RdrG, RgnK, Bits, RdrT, RdrN.)
-/
import Derived.Test.YtbcdnbbpkikppaaDoorFTlc
import Derived.Carry
import Derived.Test.YtbcdnbbpkikppaaDoorProg
import Derived.Test.YtbcdnbbpkikppaaDoorWWords
import Derived.WalkSpells
section
namespace Go.Proofs.YtbcdnbbpkikppaaDoor
open Go.RowKit Go.BigFrame Go.Vec
set_option linter.unusedSimpArgs false
set_option linter.unusedVariables false
/-- Whole numbers, where they lie. -/
def IntsAt (A : Option Addr) (l : List Int) (w : World) : Prop := 0 < l.length → ∃ g off, A = some ⟨g, off, none⟩ ∧ g < w.heap.size ∧ ∀ i, i < l.length → w.cell? ⟨g, off + i, none⟩ = some (.int .i64 (l.getD i 0))
theorem IntsAt.keep {A l} {w w' : World} (h : IntsAt A l w) (hb : Below w.heap.size w w') : IntsAt A l w' := fun hn => by
  obtain ⟨g, off, h1, h2, h3⟩ := h hn
  exact ⟨g, off, h1, Nat.lt_of_lt_of_le h2 hb.size, fun i hi => (hb.cell (p := ⟨g, off + i, none⟩) h2).trans (h3 i hi)⟩
/-- A vector that has a rank. -/
def RightV (l : List Int) : Prop := l.length ≤ 16 ∧ (∀ a ∈ l, mag a ≤ 32) ∧ pul l ≤ 32
instance (l : List Int) : Decidable (RightV l) := by unfold RightV; infer_instance
theorem pul_app : ∀ l r : List Int, pul (l ++ r) = pul l + pul r
  | [], r => by show pul r = 0 + pul r; omega
  | a :: l, r => by show mag a + pul (l ++ r) = mag a + pul l + pul r; rw [pul_app l r]; omega
theorem pul_bound : ∀ l : List Int, (∀ a ∈ l, mag a ≤ 32) → pul l ≤ 32 * l.length
  | [], _ => by show (0 : Int) ≤ _; simp
  | a :: l, h => by
    have h1 := h a (by simp)
    have h2 := pul_bound l (fun b hb => h b (by simp [hb]))
    show mag a + pul l ≤ 32 * ((l.length + 1 : Nat) : Int)
    omega
theorem take_snoc (l : List Int) (j : Nat) (hj : j < l.length) : l.take (j + 1) = l.take j ++ [l.getD j 0] := by
  rw [List.take_add_one, List.getElem?_eq_getElem hj]
  simp [List.getD_eq_getElem?_getD, List.getElem?_eq_getElem hj]
theorem drop_cons (l : List Int) (j : Nat) (hj : j < l.length) : l.drop j = l.getD j 0 :: l.drop (j + 1) := by
  rw [List.drop_eq_getElem_cons hj]
  simp [List.getD_eq_getElem?_getD, List.getElem?_eq_getElem hj]
theorem getD_mem (l : List Int) (j : Nat) (hj : j < l.length) : l.getD j 0 ∈ l := by
  rw [List.getD_eq_getElem?_getD, List.getElem?_eq_getElem hj]
  exact List.getElem_mem hj
theorem mag_pul (l : List Int) : ∀ a ∈ l, mag a ≤ pul l := by
  induction l with
  | nil => intro a ha; cases ha
  | cons b l ih =>
    intro a ha
    have h1 := pul_nn l
    have h2 := mag_nn b
    show mag a ≤ mag b + pul l
    rcases List.mem_cons.1 ha with rfl | h
    · omega
    · have := ih a h; omega
theorem rankL_step (l : List Int) (j : Nat) (hj : j < l.length) : rankL (l.drop j) = ah ((l.drop (j + 1)).length : Nat) (pul (l.drop j)) (place (l.getD j 0)) + rankL (l.drop (j + 1)) := by
  rw [drop_cons l j hj]; rfl
theorem pul_step (l : List Int) (j : Nat) (hj : j < l.length) : pul (l.drop j) = mag (l.getD j 0) + pul (l.drop (j + 1)) := by
  rw [drop_cons l j hj]; rfl
theorem place_pos (a : Int) (q : Nat) (h : a = q) (hq : 1 ≤ q) : place a = 2 * q - 1 := by subst h; unfold place; rw [if_pos (by omega)]; omega
theorem place_neg (a : Int) (q : Nat) (h : a = -(q : Int)) : place a = 2 * q := by subst h; unfold place; rw [if_neg (by omega)]; omega
theorem pul_ge (l : List Int) (j : Nat) : pul (l.take j) ≤ pul l ∧ pul (l.drop j) ≤ pul l := by
  have h := pul_app (l.take j) (l.drop j)
  rw [List.take_append_drop] at h
  have h1 := pul_nn (l.take j)
  have h2 := pul_nn (l.drop j)
  omega
set_option maxHeartbeats 8000000 in
set_option maxRecDepth 100000 in
theorem tabRank_no (b : Nat) (A : Option Addr) (l : List Int) (n cap : Nat) (hln : l.length = n) (hR : ¬ RightV l) (w : World) (hx : IntsAt A l w) :
    Calls Tryd.prog 169 #[.pointer (some ⟨b, 0, none⟩), .slice A n cap] w fun e w' => e = .returned (.tuple #[.int .u64 0, .bool false]) ∧ Below w.heap.size w w' := by
  have HX := Lib.hid hx
  have HLN := Lib.hid hln
  have HR := Lib.hid hR
  clear hx hln hR
  by_cases h16 : n ≤ 16
  · have h16i : (n : Int) ≤ 16 := by omega
    go_enter Tryd.func169, Tryd.ntmps169
    go_wp2_with fail
    go_loopw [6, 8, 19] (fun v6 v8 cnt wr => ∃ j : Nat, j ≤ n ∧ cnt = .int .i64 j ∧ v6 = .int .i64 (pul (l.take j)) ∧ (∀ a ∈ l.take j, mag a ≤ 32) ∧ Below w.heap.size w wr) (fun _ _ cnt _ => n - (intOf cnt).toNat)
    case atStart => exact ⟨0, by omega, rfl, rfl, fun a ha => by simp at ha, by (repeat' (first | with_reducible (first | exact Below.refl _ _ | assumption | refine Below.alloc ?_ ?_ _ | refine below_grew ?_ ?_ _ | refine Below.setCell ?_ ?_ _ | refine Below.drew ?_ | refine below_drewN ?_ _) | omega | (simp; done) | (simp; omega)))⟩
    case round =>
      obtain ⟨j, hj, rfl, rfl, hm, hb⟩ := hrel
      have HM := Lib.hid hm
      have HB := Lib.hid hb
      have hpb := pul_bound _ hm
      have hp0 := pul_nn (l.take j)
      rw [List.length_take] at hpb
      have hpb2 : pul (l.take j) ≤ 512 := by omega
      clear hm hb hpb
      by_cases hlt : j < n
      · have hji : (j : Int) < n := by omega
        obtain ⟨g, off, rfl, hg, hc⟩ := (HX.out.keep HB.out) (by rw [HLN.out]; omega)
        have cx := hc j (by rw [HLN.out]; exact hlt)
        have HTS := Lib.hid (take_snoc l j (by rw [HLN.out]; exact hlt))
        obtain ⟨a, ha⟩ : ∃ x, l.getD j 0 = x := ⟨_, rfl⟩
        rw [ha] at cx HTS
        have HP := Lib.hid (show pul (l.take (j + 1)) = pul (l.take j) + mag a from by rw [HTS.out, pul_app]; show _ + (mag a + 0) = _; omega)
        obtain ⟨S, hS⟩ : ∃ x, pul (l.take j) = x := ⟨_, rfl⟩
        rw [hS] at hp0 hpb2 HP
        rw [hS]
        clear ha hS hc hg
        by_cases h1 : a < -32
        · go_wp2_with fail
          refine bodyPost_ret (v := _) (by simp [results, Tryd.results169, go_sem]; rfl) rfl ⟨?_, ?_⟩
          · rfl
          · exact HB.out
        · by_cases h2 : 32 < a
          · have h1' : -32 ≤ a := by omega
            go_wp2_with fail
            refine bodyPost_ret (v := _) (by simp [results, Tryd.results169, go_sem]; rfl) rfl ⟨?_, ?_⟩
            · rfl
            · exact HB.out
          · have h1' : -32 ≤ a := by omega
            have h2' : a ≤ 32 := by omega
            have hmax : max a (-a) = mag a := rfl
            have hm0 : 0 ≤ mag a ∧ mag a ≤ 32 := by unfold mag; omega
            obtain ⟨M, hM⟩ : ∃ x, mag a = x := ⟨_, rfl⟩
            rw [hM] at HP hmax hm0
            obtain ⟨m0, m1⟩ := hm0
            have HMA := Lib.hid (show mag a ≤ 32 by omega)
            clear hM h1 h2
            go_wp2_with fail
            go_roundw
            case rel => exact ⟨j + 1, by omega, rfl, by rw [HP.out], fun x hx => by rw [HTS.out] at hx; rcases List.mem_append.1 hx with h | h; exact HM.out x h; rw [List.mem_singleton] at h; rw [h]; exact HMA.out, HB.out⟩
            case measure => simp [intOf]; omega
      · have hji : ¬ (j : Int) < n := by omega
        obtain rfl : j = n := by omega
        have hk : 32 < pul (l.take j) := by
          have h1 := HR.out
          rw [show l.take j = l from by rw [← HLN.out, List.take_length]]
          by_cases e : pul l ≤ 32
          · exact absurd (⟨by rw [HLN.out]; exact h16, fun a ha => HM.out a (by rw [show l.take j = l from by rw [← HLN.out, List.take_length]]; exact ha), e⟩ : RightV l) h1
          · omega
        obtain ⟨S, hS⟩ : ∃ x, pul (l.take j) = x := ⟨_, rfl⟩
        rw [hS] at hk ⊢
        clear hS hp0 hpb2
        go_wp2_with fail
        refine bodyPost_ret (v := _) (by simp [results, Tryd.results169, go_sem]; rfl) rfl ⟨?_, ?_⟩
        · rfl
        · exact HB.out
  · have h16i : 16 < (n : Int) := by omega
    go_enter Tryd.func169, Tryd.ntmps169
    go_wp2_with fail
    refine bodyPost_ret (v := _) (by simp [results, Tryd.results169, go_sem]; rfl) rfl ⟨?_, ?_⟩
    · rfl
    · (repeat' (first | with_reducible (first | exact Below.refl _ _ | assumption | refine Below.alloc ?_ ?_ _ | refine below_grew ?_ ?_ _ | refine Below.setCell ?_ ?_ _ | refine Below.drew ?_ | refine below_drewN ?_ _) | omega | (simp; done) | (simp; omega)))
set_option maxHeartbeats 8000000 in
set_option maxRecDepth 100000 in
theorem tabRank_yes (b : Nat) (A : Option Addr) (l : List Int) (n cap : Nat) (hln : l.length = n) (hR : RightV l) (w : World) (hT : TableOK b w) (hx : IntsAt A l w) :
    Calls Tryd.prog 169 #[.pointer (some ⟨b, 0, none⟩), .slice A n cap] w fun e w' => e = .returned (.tuple #[.int .u64 (rankL l), .bool true]) ∧ Below w.heap.size w w' := by
  have hra := Lib.hid (fun n k m hn hk hm hmk w hT => rowAhead b n k m hn hk hm hmk w hT)
  have HT := Lib.hid hT
  have HX := Lib.hid hx
  have HLN := Lib.hid hln
  have HR := Lib.hid hR
  have h16 : n ≤ 16 := by rw [← hln]; exact hR.1
  have h16i : (n : Int) ≤ 16 := by omega
  have HR32 := Lib.hid hR.2.2
  have HRK := Lib.hid (rank_lt l hR.1 hR.2.2)
  have HRB := Lib.hid (vF_bd (l.length : Nat) (pul l))
  clear hx hln hR hT
  go_enter Tryd.func169, Tryd.ntmps169
  go_wp2_with fail
  go_loopw [6, 8, 19] (fun v6 v8 cnt wr => ∃ j : Nat, j ≤ n ∧ cnt = .int .i64 j ∧ v6 = .int .i64 (pul (l.take j)) ∧ Below w.heap.size w wr) (fun _ _ cnt _ => n - (intOf cnt).toNat)
  case atStart => exact ⟨0, by omega, rfl, rfl, by (repeat' (first | with_reducible (first | exact Below.refl _ _ | assumption | refine Below.alloc ?_ ?_ _ | refine below_grew ?_ ?_ _ | refine Below.setCell ?_ ?_ _ | refine Below.drew ?_ | refine below_drewN ?_ _) | omega | (simp; done) | (simp; omega)))⟩
  case round =>
    obtain ⟨j, hj, rfl, rfl, hb⟩ := hrel
    have HB := Lib.hid hb
    have hp0 := pul_nn (l.take j)
    have hpb2 : pul (l.take j) ≤ 32 := by have := (pul_ge l j).1; have := HR32.out; omega
    clear hb
    by_cases hlt : j < n
    · have hji : (j : Int) < n := by omega
      obtain ⟨g, off, rfl, hg, hc⟩ := (HX.out.keep HB.out) (by rw [HLN.out]; omega)
      have cx := hc j (by rw [HLN.out]; exact hlt)
      have HTS := Lib.hid (take_snoc l j (by rw [HLN.out]; exact hlt))
      have hma := HR.out.2.1 _ (getD_mem l j (by rw [HLN.out]; exact hlt))
      obtain ⟨a, ha⟩ : ∃ x, l.getD j 0 = x := ⟨_, rfl⟩
      rw [ha] at cx HTS hma
      have HP := Lib.hid (show pul (l.take (j + 1)) = pul (l.take j) + mag a from by rw [HTS.out, pul_app]; show _ + (mag a + 0) = _; omega)
      obtain ⟨S, hS⟩ : ∃ x, pul (l.take j) = x := ⟨_, rfl⟩
      rw [hS] at hp0 hpb2 HP
      rw [hS]
      have h1' : -32 ≤ a := by unfold mag at hma; omega
      have h2' : a ≤ 32 := by unfold mag at hma; omega
      have hmax : max a (-a) = mag a := rfl
      have m0 := mag_nn a
      obtain ⟨M, hM⟩ : ∃ x, mag a = x := ⟨_, rfl⟩
      rw [hM] at HP hmax hma m0
      clear hM ha hS hc hg
      go_wp2_with fail
      go_roundw
      case rel => exact ⟨j + 1, by omega, rfl, by rw [HP.out], HB.out⟩
      case measure => simp [intOf]; omega
    · have hji : ¬ (j : Int) < n := by omega
      obtain rfl : j = n := by omega
      have hTL : l.take j = l := by rw [← HLN.out, List.take_length]
      have HTL := Lib.hid hTL
      rw [hTL] at hp0 hpb2 ⊢
      clear hTL hlt
      obtain ⟨K, hK⟩ : ∃ x, pul l = x := ⟨_, rfl⟩
      have HK := Lib.hid hK
      rw [hK] at hp0 hpb2 ⊢
      clear hK
      go_wp2_with fail
      go_loopw [6, 9, 10, 11, 12, 13, 40] (fun v6 v9 v10 v11 v12 v13 cnt wr2 => ∃ q : Nat, q ≤ j ∧ cnt = .int .i64 q ∧ v6 = .int .i64 (pul (l.drop q)) ∧ (∃ x : Int, v9 = .int .u64 x ∧ 0 ≤ x ∧ x + rankL (l.drop q) = rankL l) ∧ Below w.heap.size w wr2) (fun _ _ _ _ _ _ cnt _ => j - (intOf cnt).toNat)
      case atStart => exact ⟨0, by omega, rfl, by rw [List.drop_zero, HK.out], ⟨0, rfl, by omega, by rw [List.drop_zero]; omega⟩, HB.out⟩
      case round =>
        clear HB
        obtain ⟨q, hq, rfl, rfl, ⟨x, rfl, hx0, hx⟩, hb⟩ := hrel
        have HB := Lib.hid hb
        have HXR := Lib.hid hx
        clear hb hx
        by_cases hlt : q < j
        · have hji : (q : Int) < j := by omega
          have hql : q < l.length := by rw [HLN.out]; exact hlt
          obtain ⟨g, off, hA, hg, hc⟩ := (HX.out.keep HB.out) (by omega)
          have cx := hc q hql
          have HST := Lib.hid (rankL_step l q hql)
          have HPS := Lib.hid (pul_step l q hql)
          have hp1 := pul_nn (l.drop (q + 1))
          have hp2 : pul (l.drop q) ≤ 32 := by have := (pul_ge l q).2; have := HR32.out; omega
          have hr2 := (rank_lt (l.drop (q + 1)) (by rw [List.length_drop, HLN.out]; omega) (by have := (pul_ge l (q + 1)).2; have := HR32.out; omega)).1
          have hxb : rankL l ≤ 100000000000000000 := by have := HRK.out; have := HRB.out; omega
          have hlen : (l.drop (q + 1)).length = j - 1 - q := by rw [List.length_drop, HLN.out]; omega
          rw [hlen] at HST
          obtain ⟨m, hm⟩ : ∃ x, j - 1 - q = x := ⟨_, rfl⟩
          rw [hm] at HST
          have hidx : (j : Int) - 1 - q = m := by omega
          have hmi : (m : Int) < 17 := by omega
          obtain ⟨a, ha⟩ : ∃ x, l.getD q 0 = x := ⟨_, rfl⟩
          rw [ha] at cx HST HPS
          have hm0 := mag_nn a
          obtain ⟨P, hP⟩ : ∃ P : Nat, pul (l.drop q) = P := ⟨(pul (l.drop q)).toNat, by have := HPS.out; omega⟩
          obtain ⟨M, hM⟩ : ∃ M : Nat, mag a = M := ⟨(mag a).toNat, by omega⟩
          obtain ⟨KQ, hKQ⟩ : ∃ KQ : Nat, pul (l.drop (q + 1)) = KQ := ⟨(pul (l.drop (q + 1))).toNat, by omega⟩
          have HKQ := Lib.hid hKQ
          rw [hP, hM, hKQ] at HPS
          rw [hP] at HST hp2 ⊢
          have hPM := HPS.out
          have hmax : max a (-a) = M := hM
          have hPM2 : (P : Int) - M = KQ := by omega
          have hTb := HT.out.below HT.out.lt HB.out
          have HTB := Lib.hid hTb
          have hP33 : (P : Int) < 33 := by omega
          have hK33 : (KQ : Int) < 33 := by omega
          have ha1 : -32 ≤ a := by unfold mag at hM; omega
          have ha2 : a ≤ 32 := by unfold mag at hM; omega
          subst hA
          clear ha hc hg hlen hm hP hKQ
          by_cases hz : a = 0
          · obtain rfl : M = 0 := by subst hz; unfold mag at hM; omega
            subst hz
            have hx2 : x + rankL (l.drop (q + 1)) = rankL l := by
              have h1 := HXR.out
              have h2 := HST.out
              have e : ah m P (place 0) = 0 := rfl
              omega
            have hPK : P = KQ := by omega
            clear hM hTb hmax hPM hPM2
            go_wp2_with fail
            go_roundw
            case rel => exact ⟨q + 1, by omega, rfl, by rw [HKQ.out, hPK], ⟨x, rfl, hx0, hx2⟩, HB.out⟩
            case measure => simp [intOf]; omega
          · have hM1 : 1 ≤ M := by unfold mag at hM; omega
            have hM0 : ¬ (M : Int) = 0 := by omega
            obtain ⟨Ah, hAh⟩ : ∃ x, ah m P (2 * M - 1) = x := ⟨_, rfl⟩
            have HRA := Lib.hid (fun w hT => hra.out m P M (by omega) (by omega) hM1 (by omega) w hT)
            rw [hAh] at HRA
            have hA0 : 0 ≤ Ah := by rw [← hAh]; exact ah_nn _ _ _
            by_cases hneg : a < 0
            · have hpl := place_neg a M (by unfold mag at hM; omega)
              have h2 := (ah_two m P M hM1).1
              rw [hPM2, hAh, ← hpl] at h2
              obtain ⟨vq, hvq⟩ : ∃ x, vF m KQ = x := ⟨_, rfl⟩
              have hv0 : 0 ≤ vq := by rw [← hvq]; exact (vF_bd _ _).1
              rw [hvq] at h2
              have HVC := Lib.hid (fun w (hT : TableOK b w) => hT.vcell m KQ (by omega) (by omega))
              rw [hvq] at HVC
              have hx2 : x + Ah + vq + rankL (l.drop (q + 1)) = rankL l := by
                have h1 := HXR.out
                have h3 := HST.out
                omega
              clear hM hTb hvq hAh h2 hpl hPM
              go_wp2_with fail
              refine (HRA.out _ HTB.out).mono ?_
              rintro e w3 ⟨rfl, hb3⟩
              have HB3 := Lib.hid (HB.out.trans (hb3.mono HB.out.size))
              have cv := HVC.out _ (HTB.out.below HTB.out.lt hb3)
              clear hb3 HB HTB HRA HVC
              go_wp2_with fail
              go_roundw
              case rel => exact ⟨q + 1, by omega, rfl, by rw [HKQ.out], ⟨x + Ah + vq, rfl, by omega, hx2⟩, HB3.out⟩
              case measure => simp [intOf]; omega
            · have hpl := place_pos a M (by unfold mag at hM; omega) hM1
              have hx2 : x + Ah + rankL (l.drop (q + 1)) = rankL l := by
                have h1 := HXR.out
                have h3 := HST.out
                rw [hpl, hAh] at h3
                omega
              clear hM hTb hAh hpl hPM
              go_wp2_with fail
              refine (HRA.out _ HTB.out).mono ?_
              rintro e w3 ⟨rfl, hb3⟩
              have HB3 := Lib.hid (HB.out.trans (hb3.mono HB.out.size))
              clear hb3 HB HTB HRA
              go_wp2_with fail
              go_roundw
              case rel => exact ⟨q + 1, by omega, rfl, by rw [HKQ.out], ⟨x + Ah, rfl, by omega, hx2⟩, HB3.out⟩
              case measure => simp [intOf]; omega
        · have hji : ¬ (q : Int) < j := by omega
          obtain rfl : q = j := by omega
          clear hlt
          obtain rfl : x = rankL l := by
            have := HXR.out
            rw [show l.drop q = [] from by rw [← HLN.out, List.drop_length]] at this
            have e : rankL [] = 0 := rfl
            omega
          generalize pul (l.drop q) = S
          go_wp2_with fail
          refine bodyPost_ret (v := _) (by simp [results, Tryd.results169, go_sem]; rfl) rfl ⟨?_, ?_⟩
          · rfl
          · exact HB.out
end Go.Proofs.YtbcdnbbpkikppaaDoor
end

section
namespace Go
open Go.RowKit
theorem BkInv.trans {m : Nat} {a b c : World} (h : BkInv m a b) (k : BkInv m b c) : BkInv m a c :=
  ⟨k.os.trans h.os, k.tape.trans h.tape, k.output.trans h.output, Nat.le_trans h.size k.size, h.lt, k.map, fun i hi hne => (k.block i (Nat.lt_of_lt_of_le hi h.size) hne).trans (h.block i hi hne)⟩
end Go
namespace Go.Proofs.YtbcdnbbpkikppaaDoor
open Go.RowKit Go.BigFrame Go.Vec
set_option linter.unusedSimpArgs false
set_option linter.unusedVariables false
def capM (a : Int) : Int := min (mag a) 1000
def pulC : List Int → Int
  | [] => 0
  | a :: l => capM a + pulC l
theorem capM_bd (a : Int) : 0 ≤ capM a ∧ capM a ≤ 1000 := by unfold capM mag; omega
theorem capM_eq (a : Int) (h : mag a ≤ 1000) : capM a = mag a := by unfold capM; omega
theorem pulC_app : ∀ l r : List Int, pulC (l ++ r) = pulC l + pulC r
  | [], r => by show pulC r = 0 + pulC r; omega
  | a :: l, r => by show capM a + pulC (l ++ r) = capM a + pulC l + pulC r; rw [pulC_app l r]; omega
theorem pulC_bd : ∀ l : List Int, 0 ≤ pulC l ∧ pulC l ≤ 1000 * l.length
  | [] => by show (0 : Int) ≤ 0 ∧ (0 : Int) ≤ _; simp
  | a :: l => by
    have h1 := capM_bd a
    have h2 := pulC_bd l
    show 0 ≤ capM a + pulC l ∧ capM a + pulC l ≤ 1000 * ((l.length + 1 : Nat) : Int)
    omega
theorem pulC_small : ∀ l : List Int, pulC l ≤ 32 → (∀ a ∈ l, mag a ≤ 32) ∧ pul l = pulC l
  | [], _ => ⟨fun a ha => by simp at ha, rfl⟩
  | a :: l, h => by
    have h1 := capM_bd a
    have h2 := pulC_bd l
    have h' : capM a + pulC l ≤ 32 := h
    obtain ⟨h3, h4⟩ := pulC_small l (by omega)
    have h5 : mag a ≤ 32 := by unfold capM at h'; omega
    refine ⟨fun x hx => ?_, ?_⟩
    · rcases List.mem_cons.1 hx with rfl | hx
      · exact h5
      · exact h3 x hx
    · show mag a + pul l = capM a + pulC l
      rw [h4, capM_eq a (by omega)]
theorem pul_pulC : ∀ l : List Int, (∀ a ∈ l, mag a ≤ 32) → pulC l = pul l
  | [], _ => rfl
  | a :: l, h => by
    show capM a + pulC l = mag a + pul l
    rw [pul_pulC l (fun b hb => h b (by simp [hb])), capM_eq a (by have := h a (by simp); omega)]
theorem right_pulC (l : List Int) : RightV l ↔ l.length ≤ 16 ∧ pulC l ≤ 32 :=
  ⟨fun ⟨h1, h2, h3⟩ => ⟨h1, by rw [pul_pulC l h2]; exact h3⟩, fun ⟨h1, h2⟩ => by obtain ⟨h3, h4⟩ := pulC_small l h2; exact ⟨h1, h3, by omega⟩⟩
set_option maxHeartbeats 1000000 in
theorem bkMag (a : Int) (h0 : -9223372036854775808 ≤ a) (h1 : a ≤ 9223372036854775807) (w : World) : Calls Tryd.prog 159 #[.int .i64 a] w fun e w' => e = .returned (.int .i64 (capM a)) ∧ Below w.heap.size w w' := by
  have HC := Lib.hid (show capM a = min (max a (-a)) 1000 from rfl)
  by_cases he : a = -9223372036854775808
  · subst he
    go_enter Tryd.func159, Tryd.ntmps159
    go_wp2_with fail
    go_ret
    exact ⟨ret_int (by unfold capM mag; omega), by (repeat' (first | with_reducible (first | exact Below.refl _ _ | assumption | refine Below.alloc ?_ ?_ _ | refine below_grew ?_ ?_ _ | refine Below.setCell ?_ ?_ _ | refine Below.drew ?_ | refine below_drewN ?_ _) | omega | (simp; done) | (simp; omega)))⟩
  · have HE := Lib.hid (show min (max a (-min a (a + 1))) 1000 = capM a from by rw [HC.out]; omega)
    by_cases hm : a = 9223372036854775807
    · subst hm
      go_enter Tryd.func159, Tryd.ntmps159
      go_wp2_with fail
      go_ret
      exact ⟨ret_int (by unfold capM mag; omega), by (repeat' (first | with_reducible (first | exact Below.refl _ _ | assumption | refine Below.alloc ?_ ?_ _ | refine below_grew ?_ ?_ _ | refine Below.setCell ?_ ?_ _ | refine Below.drew ?_ | refine below_drewN ?_ _) | omega | (simp; done) | (simp; omega)))⟩
    · have h2 : -9223372036854775807 ≤ a := by omega
      have h3 : a ≤ 9223372036854775806 := by omega
      clear he hm h0 h1
      go_enter Tryd.func159, Tryd.ntmps159
      go_wp2_with fail
      go_ret
      exact ⟨ret_int HE.out, by (repeat' (first | with_reducible (first | exact Below.refl _ _ | assumption | refine Below.alloc ?_ ?_ _ | refine below_grew ?_ ?_ _ | refine Below.setCell ?_ ?_ _ | refine Below.drew ?_ | refine below_drewN ?_ _) | omega | (simp; done) | (simp; omega)))⟩
theorem bkNext (p : Nat) (hp : p ≤ 1000) (w : World) : Calls Tryd.prog 160 #[.int .i64 (nth p)] w fun e w' => e = .returned (.int .i64 (nth (p + 1))) ∧ Below w.heap.size w w' := by
  have h := nth_next p
  have hb : -1000 ≤ nth p ∧ nth p ≤ 1000 := by unfold nth; split <;> omega
  generalize nth p = v at *
  generalize nth (p + 1) = u at *
  obtain ⟨b0, b1⟩ := hb
  by_cases hv : 0 < v
  · rw [if_pos hv] at h
    subst h
    go_enter Tryd.func160, Tryd.ntmps160
    go_wp2_with fail
    go_ret
    exact ⟨rfl, by (repeat' (first | with_reducible (first | exact Below.refl _ _ | assumption | refine Below.alloc ?_ ?_ _ | refine below_grew ?_ ?_ _ | refine Below.setCell ?_ ?_ _ | refine Below.drew ?_ | refine below_drewN ?_ _) | omega | (simp; done) | (simp; omega)))⟩
  · rw [if_neg hv] at h
    subst h
    go_enter Tryd.func160, Tryd.ntmps160
    go_wp2_with fail
    go_ret
    exact ⟨rfl, by (repeat' (first | with_reducible (first | exact Below.refl _ _ | assumption | refine Below.alloc ?_ ?_ _ | refine below_grew ?_ ?_ _ | refine Below.setCell ?_ ?_ _ | refine Below.drew ?_ | refine below_drewN ?_ _) | omega | (simp; done) | (simp; omega)))⟩
set_option maxHeartbeats 4000000 in
set_option maxRecDepth 100000 in
theorem bkPulses (A : Option Addr) (l : List Int) (n cap : Nat) (hln : l.length = n) (hn : n ≤ 1000) (hcap : n ≤ cap) (hb : ∀ a ∈ l, -9223372036854775808 ≤ a ∧ a ≤ 9223372036854775807) (w : World) (hx : IntsAt A l w) (hA : A = none → cap = 0) :
    Calls Tryd.prog 161 #[.slice A n cap] w fun e w' => e = .returned (.int .i64 (pulC l)) ∧ Below w.heap.size w w' := by
  have hmg := Lib.hid (fun a h0 h1 w => bkMag a h0 h1 w)
  have HX := Lib.hid hx
  have HLN := Lib.hid hln
  have HBD := Lib.hid hb
  have hmin : min (n : Int) 1000 = n := by omega
  have hni : (n : Int) ≤ 1000 := by omega
  have hci : (n : Int) ≤ cap := by omega
  clear hx hln hb
  go_enter Tryd.func161, Tryd.ntmps161
  go_upto_region 3 with fail
  go_loopw [3, 5, 12] (fun v3 v5 cnt wr => ∃ j : Nat, j ≤ n ∧ cnt = .int .i64 j ∧ v3 = .int .i64 (pulC (l.take j)) ∧ Below w.heap.size w wr) (fun _ _ cnt _ => n - (intOf cnt).toNat)
  case atStart => exact ⟨0, by omega, rfl, rfl, by (repeat' (first | with_reducible (first | exact Below.refl _ _ | assumption | refine Below.alloc ?_ ?_ _ | refine below_grew ?_ ?_ _ | refine Below.setCell ?_ ?_ _ | refine Below.drew ?_ | refine below_drewN ?_ _) | omega | (simp; done) | (simp; omega)))⟩
  case round =>
    obtain ⟨j, hj, rfl, rfl, hb⟩ := hrel
    have HB := Lib.hid hb
    have hpb := pulC_bd (l.take j)
    rw [List.length_take] at hpb
    obtain ⟨S, hS⟩ : ∃ x, pulC (l.take j) = x := ⟨_, rfl⟩
    have HS := Lib.hid hS
    rw [hS] at hpb ⊢
    have hp0 : 0 ≤ S := hpb.1
    have hp1 : S ≤ 1000000 := by omega
    clear hb hpb hS
    by_cases hlt : j < n
    · have hji : (j : Int) < n := by omega
      obtain ⟨g, off, hA, hg, hc⟩ := (HX.out.keep HB.out) (by rw [HLN.out]; omega)
      have cx := hc j (by rw [HLN.out]; exact hlt)
      have HTS := Lib.hid (take_snoc l j (by rw [HLN.out]; exact hlt))
      have hba := HBD.out _ (getD_mem l j (by rw [HLN.out]; exact hlt))
      obtain ⟨a, ha⟩ : ∃ x, l.getD j 0 = x := ⟨_, rfl⟩
      rw [ha] at cx HTS hba
      have HM := Lib.hid (fun w => hmg.out a hba.1 hba.2 w)
      have hcb := capM_bd a
      have HP := Lib.hid (show pulC (l.take (j + 1)) = S + capM a from by rw [HTS.out, pulC_app, HS.out]; show _ + (capM a + 0) = _; omega)
      obtain ⟨M, hM⟩ : ∃ x, capM a = x := ⟨_, rfl⟩
      rw [hM] at HM hcb HP
      obtain ⟨m0, m1⟩ := hcb
      subst hA
      clear hM ha hc hg hba
      go_wp2_with fail
      refine (HM.out _).mono ?_
      rintro e w3 ⟨rfl, hb3⟩
      have HB3 := Lib.hid (HB.out.trans (hb3.mono HB.out.size))
      clear hb3 HB cx
      go_wp2_with fail
      go_roundw
      case rel => exact ⟨j + 1, by omega, rfl, by rw [HP.out], HB3.out⟩
      case measure => simp [intOf]; omega
    · have hji : ¬ (j : Int) < n := by omega
      obtain rfl : j = n := by omega
      have HE := Lib.hid (show S = pulC l from by rw [← HS.out, ← HLN.out, List.take_length])
      go_wp2_with fail
      go_ret
      exact ⟨ret_int HE.out, HB.out⟩
theorem nth_bd (p : Nat) (h : p ≤ 1000) : -1000 ≤ nth p ∧ nth p ≤ 1000 := by unfold nth; split <;> omega
set_option maxHeartbeats 4000000 in
set_option maxRecDepth 100000 in
/-- How many go ahead of a number. -/
theorem bkAhead (b m n : Nat) (k a : Int) (hn : n < 16) (hk : 0 ≤ k ∧ k ≤ 32) (ha : mag a ≤ k) (w : World) (hB : Book b m w) :
    Calls Tryd.prog 162 #[.pointer (some ⟨b, 0, none⟩), .int .i64 ((n : Int) + 1), .int .i64 k, .int .i64 a] w fun e w' => e = .returned (.int .u64 (ah n k (place a))) ∧ BkInv m w w' := by
  have hmg := Lib.hid (fun a h0 h1 w => bkMag a h0 h1 w)
  have hnx := Lib.hid (fun p hp w => bkNext p hp w)
  have hV := Lib.hid (fun n k w hB => bookV b m n k w hB)
  have HB := Lib.hid hB
  have hpl : place a ≤ 64 := by have := place_le a k ha; omega
  have HLE := Lib.hid (show ah n k (place a) ≤ 100000000000000000 from by
    have h1 := ah_mono n k (place a) (2 * k.toNat + 1) (by have := place_le a k ha; omega)
    rw [ah_all n k hn hk] at h1
    have := vF_bd ((n : Int) + 1) k
    omega)
  obtain ⟨k0, k1⟩ := hk
  have hma : mag a ≤ 32 := by omega
  have ha0 : -32 ≤ a := by unfold mag at hma; omega
  have ha1 : a ≤ 32 := by unfold mag at hma; omega
  have hni : (n : Int) < 16 := by omega
  have HEQ := Lib.hid (nth_place a)
  have HPE := Lib.hid (fun p => nth_eq p a)
  obtain ⟨Pl, hPl⟩ : ∃ x, place a = x := ⟨_, rfl⟩
  rw [hPl] at hpl HLE HEQ
  simp only [hPl] at HPE ⊢
  clear hB ha hma hPl
  go_enter Tryd.func162, Tryd.ntmps162
  go_wp2_with fail
  go_loopw [9, 10] (fun v9 v10 wr => ∃ p : Nat, p ≤ Pl ∧ v10 = .int .i64 (nth p) ∧ v9 = .int .u64 (ah n k p) ∧ BkInv m w wr) (fun _ v10 _ => Pl - place (intOf v10))
  case atStart => exact ⟨0, by omega, rfl, rfl, HB.out.refl⟩
  case round =>
    obtain ⟨p, hp, rfl, rfl, hb⟩ := hrel
    have HI := Lib.hid hb
    have HBw := Lib.hid (HB.out.inv hb)
    have hnb := nth_bd p (by omega)
    have hah0 := ah_nn n k p
    have hah1 : ah n k p ≤ 100000000000000000 := by have := ah_mono n k p Pl hp; have := HLE.out; omega
    clear hb
    by_cases hlt : p < Pl
    · have hne : ¬ nth p = a := fun e => by have := (HPE.out p).1 e; omega
      have HS := Lib.hid (show ah n k (p + 1) = ah n k p + vF n (k - mag (nth p)) from rfl)
      have HX := Lib.hid (hnx.out p (by omega))
      have hs1 : ah n k (p + 1) ≤ 100000000000000000 := by have := ah_mono n k (p + 1) Pl hlt; have := HLE.out; omega
      have hcm : capM (nth p) = mag (nth p) := capM_eq _ (by unfold mag; omega)
      have HM := Lib.hid (fun w => hmg.out (nth p) (by omega) (by omega) w)
      rw [hcm] at HM
      have hm0 : 0 ≤ mag (nth p) ∧ mag (nth p) ≤ 1000 := by unfold mag; omega
      obtain ⟨M, hM⟩ : ∃ x, mag (nth p) = x := ⟨_, rfl⟩
      rw [hM] at HM hm0 HS
      obtain ⟨m0, m1⟩ := hm0
      have HVV := Lib.hid (fun w hB => hV.out (n : Int) (k - M) w hB)
      have hv0 := (vF_bd n (k - M)).1
      obtain ⟨vv, hvv⟩ : ∃ x, vF n (k - M) = x := ⟨_, rfl⟩
      rw [hvv] at HVV HS hv0
      obtain ⟨S, hS⟩ : ∃ x, ah n k p = x := ⟨_, rfl⟩
      have hs2 : S + vv ≤ 100000000000000000 := by have := HS.out; omega
      rw [hS] at HS hah0 hah1 ⊢
      obtain ⟨y, hy⟩ : ∃ x, nth p = x := ⟨_, rfl⟩
      obtain ⟨z, hz⟩ : ∃ x, nth (p + 1) = x := ⟨_, rfl⟩
      rw [hy] at hne HM hnb HX ⊢
      rw [hz] at HX
      have HY := Lib.hid hy
      have HZ := Lib.hid hz
      obtain ⟨y0, y1⟩ := hnb
      clear hy hz hS hvv hM hcm hs1
      go_wp2_with fail
      refine (HM.out _).mono ?_
      rintro e w3 ⟨rfl, hb3⟩
      have HI3 := Lib.hid (HI.out.below (hb3.mono HI.out.size))
      clear hb3 HI HBw
      go_wp2_with fail
      refine (HVV.out _ (HB.out.inv HI3.out)).mono ?_
      rintro e w4 ⟨rfl, hb4⟩
      have HI4 := Lib.hid (HI3.out.trans (BkInv.of_bk (HB.out.inv HI3.out).lt_m hb4))
      clear hb4 HI3
      go_wp2_with fail
      refine (HX.out _).mono ?_
      rintro e w5 ⟨rfl, hb5⟩
      have HI5 := Lib.hid (HI4.out.below (hb5.mono HI4.out.size))
      clear hb5 HI4
      go_wp2_with fail
      go_roundw
      case rel => exact ⟨p + 1, hlt, by rw [HZ.out], by rw [HS.out], HI5.out⟩
      case measure => simp only [intOf]; rw [← HZ.out, ← HY.out, place_nth, place_nth]; omega
    · obtain rfl : p = Pl := by omega
      obtain ⟨S, hS⟩ : ∃ x, ah n k p = x := ⟨_, rfl⟩
      have he : nth p = a := HEQ.out
      have HSS := Lib.hid hS
      rw [hS, he]
      clear hS he
      go_wp2_with fail
      go_ret
      exact ⟨ret_int HSS.out.symm, HI.out⟩
end Go.Proofs.YtbcdnbbpkikppaaDoor
end

section
namespace Go.Proofs.YtbcdnbbpkikppaaDoor
open Go.RowKit Go.BigFrame Go.Vec
set_option linter.unusedSimpArgs false
set_option linter.unusedVariables false
set_option maxHeartbeats 4000000 in
set_option maxRecDepth 100000 in
theorem bkRank_no (b m : Nat) (A : Option Addr) (l : List Int) (n cap : Nat) (hln : l.length = n) (hn : n ≤ 1000) (hcap : n ≤ cap) (hb : ∀ a ∈ l, -9223372036854775808 ≤ a ∧ a ≤ 9223372036854775807) (hR : ¬ RightV l) (w : World) (hx : IntsAt A l w) (hA : A = none → cap = 0) :
    Calls Tryd.prog 156 #[.pointer (some ⟨b, 0, none⟩), .slice A n cap] w fun e w' => e = .returned (.tuple #[.int .u64 0, .int .i64 2]) ∧ Below w.heap.size w w' := by
  have hp := Lib.hid (bkPulses A l n cap hln hn hcap hb w hx hA)
  have hpb := pulC_bd l
  have hR2 : 16 < n ∨ 32 < pulC l := by
    rw [right_pulC, hln] at hR
    omega
  rw [hln] at hpb
  obtain ⟨S, hS⟩ : ∃ x, pulC l = x := ⟨_, rfl⟩
  rw [hS] at hp hpb hR2
  have hs1 : S ≤ 1000000 := by omega
  have hs0 := hpb.1
  clear hln hb hR hx hA hS hpb
  go_enter Tryd.func156, Tryd.ntmps156
  go_wp2_with fail
  refine hp.out.mono ?_
  rintro e w1 ⟨rfl, hb1⟩
  have HB := Lib.hid hb1
  clear hb1 hp
  by_cases h16 : 16 < n
  · have h16i : 16 < (n : Int) := by omega
    go_wp2_with fail
    refine bodyPost_ret (v := _) (by simp [results, Tryd.results156, go_sem]; rfl) rfl ⟨?_, ?_⟩
    · rfl
    · exact HB.out
  · have h16i : ¬ 16 < (n : Int) := by omega
    have h32 : 32 < S := by omega
    go_wp2_with fail
    refine bodyPost_ret (v := _) (by simp [results, Tryd.results156, go_sem]; rfl) rfl ⟨?_, ?_⟩
    · rfl
    · exact HB.out
set_option maxHeartbeats 8000000 in
set_option maxRecDepth 100000 in
theorem bkRank_yes (b m : Nat) (A : Option Addr) (l : List Int) (n cap : Nat) (hln : l.length = n) (hcap : n ≤ cap) (hR : RightV l) (w : World) (hB : Book b m w) (hx : IntsAt A l w) (hA : A = none → cap = 0) (hsl : 0 < n → ∀ g off, A = some ⟨g, off, none⟩ → g ≠ m) :
    Calls Tryd.prog 156 #[.pointer (some ⟨b, 0, none⟩), .slice A n cap] w fun e w' => e = .returned (.tuple #[.int .u64 (rankL l), .int .i64 0]) ∧ BkInv m w w' := by
  have h16 : n ≤ 16 := by rw [← hln]; exact hR.1
  have hb : ∀ a ∈ l, -32 ≤ a ∧ a ≤ 32 := fun a ha => by have := hR.2.1 a ha; unfold mag at this; omega
  have hp := Lib.hid (bkPulses A l n cap hln (by omega) hcap (fun a ha => by have := hb a ha; omega) w hx hA)
  rw [pul_pulC l hR.2.1] at hp
  have hah := Lib.hid (fun n k a hn hk ha w hB => bkAhead b m n k a hn hk ha w hB)
  have hmg := Lib.hid (fun a h0 h1 w => bkMag a h0 h1 w)
  have HR := Lib.hid hR
  have HBD := Lib.hid hb
  have HLN := Lib.hid hln
  have HX := Lib.hid hx
  have HB := Lib.hid hB
  have HSL := Lib.hid hsl
  have HRK := Lib.hid (rank_lt l hR.1 hR.2.2)
  have HRB := Lib.hid (vF_bd (l.length : Nat) (pul l))
  have HR32 := Lib.hid hR.2.2
  have h16i : (n : Int) ≤ 16 := by omega
  have hp0 := pul_nn l
  have hp1 := hR.2.2
  obtain ⟨S, hS⟩ : ∃ x, pul l = x := ⟨_, rfl⟩
  have HS := Lib.hid hS
  rw [hS] at hp hp0 hp1
  clear hln hb hR hx hA hB hsl hS
  go_enter Tryd.func156, Tryd.ntmps156
  go_wp2_with fail
  refine hp.out.mono ?_
  rintro e w1 ⟨rfl, hb1⟩
  have HI1 := Lib.hid (HB.out.refl.below hb1)
  clear hb1 hp
  go_wp2_with fail
  go_loopw [6, 7, 8, 9, 21] (fun v6 v7 v8 v9 cnt wr => ∃ j : Nat, j ≤ n ∧ cnt = .int .i64 j ∧ v6 = .int .i64 (pul (l.drop j)) ∧ (∃ x : Int, v7 = .int .u64 x ∧ 0 ≤ x ∧ x + rankL (l.drop j) = rankL l) ∧ BkInv m w wr) (fun _ _ _ _ cnt _ => n - (intOf cnt).toNat)
  case atStart => exact ⟨0, by omega, rfl, by rw [List.drop_zero, HS.out], ⟨0, rfl, by omega, by rw [List.drop_zero]; omega⟩, HI1.out⟩
  case round =>
    clear HI1
    obtain ⟨j, hj, rfl, rfl, ⟨x, rfl, hx0, hx⟩, hi⟩ := hrel
    have HI := Lib.hid hi
    have HXR := Lib.hid hx
    clear hi hx
    by_cases hlt : j < n
    · have hji : (j : Int) < n := by omega
      have hjl : j < l.length := by rw [HLN.out]; exact hlt
      obtain ⟨g, off, hA, hg, hc⟩ := HX.out (by omega)
      have cx : wr.cell? ⟨g, off + j, none⟩ = some (.int .i64 (l.getD j 0)) := (World.cell?_of_block (HI.out.block g hg (fun e => HSL.out (by omega) g off hA e.symm))).trans (hc j hjl)
      have HST := Lib.hid (rankL_step l j hjl)
      have HPS := Lib.hid (pul_step l j hjl)
      have hq1 := pul_nn (l.drop (j + 1))
      have hq2 : pul (l.drop j) ≤ 32 := by have := (pul_ge l j).2; have := HR32.out; omega
      have hr2 := (rank_lt (l.drop (j + 1)) (by rw [List.length_drop, HLN.out]; omega) (by have := (pul_ge l (j + 1)).2; have := HR32.out; omega)).1
      have hxb : rankL l ≤ 100000000000000000 := by have := HRK.out; have := HRB.out; omega
      have hlen : (l.drop (j + 1)).length = n - 1 - j := by rw [List.length_drop, HLN.out]; omega
      rw [hlen] at HST
      obtain ⟨r, hr⟩ : ∃ x, n - 1 - j = x := ⟨_, rfl⟩
      rw [hr] at HST
      have hidx : (n : Int) - j = (r : Int) + 1 := by omega
      have hba := HBD.out _ (getD_mem l j hjl)
      obtain ⟨a, ha⟩ : ∃ x, l.getD j 0 = x := ⟨_, rfl⟩
      rw [ha] at cx HST HPS hba
      have hm0 := mag_nn a
      have hPS := HPS.out
      obtain ⟨P, hP⟩ : ∃ P, pul (l.drop j) = P := ⟨_, rfl⟩
      rw [hP] at HST HPS hq2 hPS ⊢
      have HAH := Lib.hid (fun w hB => hah.out r P a (by omega) (by omega) (by omega) w hB)
      have hcm : capM a = mag a := capM_eq a (by omega)
      have HM := Lib.hid (fun w => hmg.out a (by omega) (by omega) w)
      rw [hcm] at HM
      obtain ⟨M, hM⟩ : ∃ x, mag a = x := ⟨_, rfl⟩
      rw [hM] at HM HPS hPS hm0
      obtain ⟨V, hV⟩ : ∃ x, ah r P (place a) = x := ⟨_, rfl⟩
      have hV0 : 0 ≤ V := by rw [← hV]; exact ah_nn _ _ _
      rw [hV] at HAH HST
      have hx2 : x + V + rankL (l.drop (j + 1)) = rankL l := by
        have h1 := HXR.out
        have h2 := HST.out
        omega
      have hxv : x + V ≤ 100000000000000000 := by omega
      have hP0 : 0 ≤ P := by omega
      have HPN := Lib.hid (show P - M = pul (l.drop (j + 1)) by omega)
      have hM32 : M ≤ 32 := by omega
      have HX2 := Lib.hid hx2
      obtain ⟨b0, b1⟩ := hba
      subst hA
      clear ha hc hg hlen hr hP hM hV hcm hx2 hPS hq1 hr2
      go_wp2_with fail
      refine (HAH.out _ (HB.out.inv HI.out)).mono ?_
      rintro e w3 ⟨rfl, hb3⟩
      have HI3 := Lib.hid (HI.out.trans hb3)
      clear hb3 HI cx
      go_wp2_with fail
      refine (HM.out _).mono ?_
      rintro e w4 ⟨rfl, hb4⟩
      have HI4 := Lib.hid (HI3.out.below (hb4.mono HI3.out.size))
      clear hb4 HI3
      go_wp2_with fail
      go_roundw
      case rel => exact ⟨j + 1, by omega, rfl, by rw [HPN.out], ⟨x + V, rfl, by omega, HX2.out⟩, HI4.out⟩
      case measure => simp [intOf]; omega
    · have hji : ¬ (j : Int) < n := by omega
      obtain rfl : j = n := by omega
      obtain rfl : x = rankL l := by
        have := HXR.out
        rw [show l.drop j = [] from by rw [← HLN.out, List.drop_length]] at this
        have e : rankL [] = 0 := rfl
        omega
      generalize pul (l.drop j) = S2
      go_wp2_with fail
      refine bodyPost_ret (v := _) (by simp [results, Tryd.results156, go_sem]; rfl) rfl ⟨?_, ?_⟩
      · rfl
      · exact HI.out
abbrev TIn := 3
theorem intInfo : (Tryd.prog.info? TIn).map (fun i => (i.zero, i.size, i.bytes)) = some (some (.int .i64 0), 1, 8) := by kernel_rfl
def ints (l : List Int) : List Value := l.map fun x => .int .i64 x
theorem own_kept {w w' : World} {base : Nat} {e : TypeId} {size n : Nat} {v : Value} {xs : List Value} (h : w.ownsRow base e size v n xs) (hb : ∀ k, base ≤ k → k < w.heap.size → w'.heap[k]? = w.heap[k]?) : w'.ownsRow base e size v n xs := by
  refine ⟨h.1, ?_⟩
  rcases h.2 with h | ⟨g, cap, cur, hv, hg, hh, hr⟩
  · exact .inl h
  · exact .inr ⟨g, cap, cur, hv, hg, (hb g hg (Array.getElem?_eq_some_iff.1 hh).1).trans hh, hr⟩
theorem own_bk {m : Nat} {w w' : World} {base : Nat} {e : TypeId} {size n : Nat} {v : Value} {xs : List Value} (h : w.ownsRow base e size v n xs) (hb : BkInv m w w') (hm : m < base) : w'.ownsRow base e size v n xs :=
  own_kept h fun k h1 h2 => hb.block k h2 (by omega)
set_option maxHeartbeats 4000000 in
set_option maxRecDepth 100000 in
theorem bkUnrank_no (b m : Nat) (n : Nat) (k i : Int) (hi : vF n k ≤ i) (w : World) (hB : Book b m w) :
    Calls Tryd.prog 155 #[.pointer (some ⟨b, 0, none⟩), .int .i64 n, .int .i64 k, .int .u64 i] w fun e w' => e = .returned (.tuple #[.slice none 0 0, .int .i64 2]) ∧ BkInv m w w' := by
  have hv := Lib.hid (bookV b m n k w hB)
  have HB := Lib.hid hB
  generalize vF n k = vv at *
  clear hB
  go_enter Tryd.func155, Tryd.ntmps155
  go_wp2_with fail
  refine hv.out.mono ?_
  rintro e w1 ⟨rfl, hb1⟩
  have HI1 := Lib.hid (BkInv.of_bk HB.out.lt_m hb1)
  clear hb1 hv
  go_wp2_with fail
  refine bodyPost_ret (v := _) (by simp [results, Tryd.results155, go_sem]; rfl) rfl ⟨?_, ?_⟩
  · rfl
  · exact HI1.out
theorem ints_sn (l : List Int) (x : Int) : ints (l ++ [x]) = ints l ++ [.int .i64 x] := by simp [ints]
set_option maxHeartbeats 8000000 in
set_option maxRecDepth 100000 in
theorem bkUnrank_yes (b m : Nat) (n : Nat) (k0 i0 : Int) (hk : 0 ≤ k0 ∧ k0 ≤ 32) (hn : n ≤ 16) (h0 : 0 ≤ i0) (hi : i0 < vF n k0) (w : World) (hB : Book b m w) :
    Calls Tryd.prog 155 #[.pointer (some ⟨b, 0, none⟩), .int .i64 n, .int .i64 k0, .int .u64 i0] w fun e w' => ∃ v', e = .returned (.tuple #[v', .int .i64 0]) ∧ w'.ownsRow w.heap.size TIn 1 v' n (ints (unk n k0 i0)) ∧ BkInv m w w' := by
  have hv := Lib.hid (bookV b m n k0 w hB)
  have hV := Lib.hid (fun n k w hB => bookV b m n k w hB)
  have hmg := Lib.hid (fun a h0 h1 w => bkMag a h0 h1 w)
  have hnx := Lib.hid (fun p hp w => bkNext p hp w)
  have HB := Lib.hid hB
  have HI := Lib.hid hi
  have hn16 : (n : Int) ≤ 16 := by omega
  obtain ⟨vv, hvv⟩ : ∃ x, vF n k0 = x := ⟨_, rfl⟩
  rw [hvv] at hv hi
  clear hB hvv
  go_enter Tryd.func155, Tryd.ntmps155
  go_wp2_with fail
  refine hv.out.mono ?_
  rintro e w1 ⟨rfl, hb1⟩
  have HI1 := Lib.hid (BkInv.of_bk HB.out.lt_m hb1)
  clear hb1 hv
  go_wp2_with fail
  go_loopw [1, 2, 3, 10, 11] (fun v1 v2 v3 v10 v11 wr => ∃ (a r : Nat) (dn : List Int) (k i : Int), a + r = n ∧ dn.length = a ∧ v1 = .int .i64 r ∧ v2 = .int .i64 k ∧ v3 = .int .u64 i ∧ (0 ≤ k ∧ k ≤ 32) ∧ 0 ≤ i ∧ i < vF r k ∧ unk n k0 i0 = dn ++ unk r k i ∧ wr.ownsRow w.heap.size TIn 1 v10 a (ints dn) ∧ BkInv m w wr) (fun v1 _ _ _ _ _ => (intOf v1).toNat)
  case atStart => exact ⟨0, n, [], k0, i0, by omega, rfl, rfl, rfl, rfl, hk, h0, HI.out, by rw [List.nil_append], ⟨rfl, .inl ⟨rfl, rfl⟩⟩, HI1.out⟩
  case round =>
    clear HI1 hi h0 hk
    obtain ⟨a, r, dn, k, i, har, hdn, rfl, rfl, rfl, ⟨hk0, hk1⟩, hi0, hi1, hunk, hown, hbi⟩ := hrel
    have HBI := Lib.hid hbi
    have HOWN := Lib.hid hown
    have HUN := Lib.hid hunk
    have HDN := Lib.hid hdn
    clear hunk hown hbi hdn
    by_cases hr0 : r = 0
    · subst hr0
      obtain rfl : a = n := by omega
      have HE := Lib.hid (show unk a k0 i0 = dn by rw [HUN.out]; show dn ++ [] = dn; exact List.append_nil _)
      go_wp2_with fail
      refine bodyPost_ret (v := .tuple #[u10, .int .i64 0]) (by simp [results, Tryd.results155, go_sem]) rfl ⟨_, rfl, by rw [HE.out]; exact HOWN.out, HBI.out⟩
    · obtain ⟨q, hq⟩ : ∃ q, r = q + 1 := ⟨r - 1, by omega⟩
      have hrq : (r : Int) - 1 = q := by omega
      have hrp : 0 < (r : Int) := by omega
      have hrp' : 0 < r := by omega
      have hr17 : (r : Int) ≤ 16 := by omega
      have HQ := Lib.hid hq
      have HV1 := Lib.hid (show i < vF ((q : Int) + 1) k from by rw [hq] at hi1; simpa using hi1)
      have hib := Lib.hid (show i ≤ 100000000000000000 from by have := vF_bd ((q : Int) + 1) k; have := HV1.out; omega)
      have hq16 : q < 16 := by omega
      clear hq hr0 hi1
      have hi17 := hib.out
      go_wp2_with fail
      go_loopw [3, 11] (fun v3 v11 wr2 => ∃ p : Nat, p ≤ 2 * k.toNat ∧ v11 = .int .i64 (nth p) ∧ v3 = .int .u64 (i - ah q k p) ∧ ah q k p ≤ i ∧ BkInv m w wr2 ∧ wr2.ownsRow w.heap.size TIn 1 u10 a (ints dn)) (fun _ v11 _ => 2 * k.toNat - place (intOf v11))
      case atStart => exact ⟨0, by omega, rfl, by rw [show ah q k 0 = 0 from rfl, Int.sub_zero], by rw [show ah q k 0 = 0 from rfl]; exact hi0, HBI.out, HOWN.out⟩
      case round =>
        clear HBI HOWN
        obtain ⟨p, hp, rfl, rfl, hpi, hbi, hown⟩ := hrel
        have HBI := Lib.hid hbi
        have HOWN := Lib.hid hown
        have HPI := Lib.hid hpi
        have hal := ah_all q k hq16 ⟨hk0, hk1⟩
        have hp2 : ah q k (p + 1) ≤ i → p + 1 ≤ 2 * k.toNat := fun h => by
          by_cases e : p + 1 ≤ 2 * k.toNat
          · exact e
          · have h1 := ah_mono q k (2 * k.toNat + 1) (p + 1) (by omega)
            have h2 := HV1.out
            omega
        have HP2 := Lib.hid hp2
        have hp100 : p ≤ 64 := by omega
        have hpk : ah q k p < ah q k (p + 1) ∨ True := .inr trivial
        have HS := Lib.hid (show ah q k (p + 1) = ah q k p + vF q (k - mag (nth p)) from rfl)
        have hah0 := ah_nn q k p
        clear hbi hown hal hp2 hpk
        have hnb := nth_bd p (by omega)
        have HX := Lib.hid (hnx.out p (by omega))
        have hcm : capM (nth p) = mag (nth p) := capM_eq _ (by unfold mag; omega)
        have HM := Lib.hid (fun w => hmg.out (nth p) (by omega) (by omega) w)
        rw [hcm] at HM
        have hm0 : 0 ≤ mag (nth p) ∧ mag (nth p) ≤ 1000 := by unfold mag; omega
        obtain ⟨M, hM⟩ : ∃ x, mag (nth p) = x := ⟨_, rfl⟩
        have HMM := Lib.hid hM
        rw [hM] at HM hm0 HS
        obtain ⟨m0, m1⟩ := hm0
        have HVV := Lib.hid (fun w hB => hV.out (q : Int) (k - M) w hB)
        have hvb := vF_bd q (k - M)
        obtain ⟨vv2, hvv⟩ : ∃ x, vF q (k - M) = x := ⟨_, rfl⟩
        have HVE := Lib.hid hvv
        rw [hvv] at HVV HS hvb
        obtain ⟨v0, v1⟩ := hvb
        obtain ⟨S, hS⟩ : ∃ x, ah q k p = x := ⟨_, rfl⟩
        have HSE := Lib.hid hS
        rw [hS] at HS hah0 HPI hpi ⊢
        obtain ⟨y, hy⟩ : ∃ x, nth p = x := ⟨_, rfl⟩
        obtain ⟨z, hz⟩ : ∃ x, nth (p + 1) = x := ⟨_, rfl⟩
        rw [hy] at HM hnb HX ⊢
        rw [hz] at HX
        have HY := Lib.hid hy
        have HZ := Lib.hid hz
        obtain ⟨y0, y1⟩ := hnb
        have hw2 := HOWN.out
        have hmB : m < w.heap.size := HB.out.lt_m
        clear hy hz hS hvv hM hcm hw2
        go_wp2_with fail
        refine (HM.out _).mono ?_
        rintro e w3 ⟨rfl, hb3⟩
        have HI3 := Lib.hid (HBI.out.below (hb3.mono HBI.out.size))
        have HO3 := Lib.hid (own_kept HOWN.out fun x h1 h2 => hb3.block x h2)
        clear hb3 HBI HOWN
        go_wp2_with fail
        refine (HVV.out _ (HB.out.inv HI3.out)).mono ?_
        rintro e w4 ⟨rfl, hb4⟩
        have hb4' := BkInv.of_bk (HB.out.inv HI3.out).lt_m hb4
        have HI4 := Lib.hid (HI3.out.trans hb4')
        have HO4 := Lib.hid (own_bk HO3.out hb4' hmB)
        clear hb4 hb4' HI3 HO3
        by_cases hge : vv2 ≤ i - S
        · have HP3 := Lib.hid (HP2.out (by have := HS.out; omega))
          go_wp2_with fail
          refine (HM.out _).mono ?_
          rintro e w3 ⟨rfl, hb3⟩
          have HI5 := Lib.hid (HI4.out.below (hb3.mono HI4.out.size))
          have HO5 := Lib.hid (own_kept HO4.out fun x h1 h2 => hb3.block x h2)
          clear hb3 HI4 HO4
          go_wp2_with fail
          refine (HVV.out _ (HB.out.inv HI5.out)).mono ?_
          rintro e w6 ⟨rfl, hb4⟩
          have hb4' := BkInv.of_bk (HB.out.inv HI5.out).lt_m hb4
          have HI6 := Lib.hid (HI5.out.trans hb4')
          have HO6 := Lib.hid (own_bk HO5.out hb4' hmB)
          clear hb4 hb4' HI5 HO5
          go_wp2_with fail
          refine (HX.out _).mono ?_
          rintro e w7 ⟨rfl, hb3⟩
          have HI7 := Lib.hid (HI6.out.below (hb3.mono HI6.out.size))
          have HO7 := Lib.hid (own_kept HO6.out fun x h1 h2 => hb3.block x h2)
          clear hb3 HI6 HO6
          go_wp2_with fail
          go_roundw
          case rel => exact ⟨p + 1, HP3.out, by rw [HZ.out], by rw [HS.out, show i - (S + vv2) = i - S - vv2 by omega], by have := HS.out; omega, HI7.out, HO7.out⟩
          case measure => simp only [intOf]; rw [← HZ.out, ← HY.out, place_nth, place_nth]; have := HP3.out; omega
        · have hfst : fst q k i = p := by
            obtain ⟨f1, f2, f3⟩ := fst_spec q k i hq16 ⟨hk0, hk1⟩ hi0 HV1.out
            exact fst_eq _ _ _ _ _ f1 f2 (by rw [HSE.out]; exact hpi) (by have := HS.out; omega)
          have HU := Lib.hid (show unk (q + 1) k i = y :: unk q (k - M) (i - S) from by
            show nth (fst q k i) :: unk q (k - mag (nth (fst q k i))) (i - ah q k (fst q k i)) = _
            rw [hfst, HSE.out, HMM.out, HY.out])
          have hkm := vF_one q k (by omega) p (by have := HS.out; rw [HSE.out]; omega)
          rw [HMM.out] at hkm
          obtain ⟨km0, km1⟩ := hkm
          have hwsz : w.heap.size ≤ w4.heap.size := HI4.out.size
          have han : a ≤ 16 := by omega
          have hown' := HO4.out
          clear hfst HPI HP2 HX
          go_wp2_with (at_builtin; refine wpList_append_one rfl _ _ 60 rfl w.heap.size TIn _ 1 8 Tryd.underlying60 intInfo rfl (by decide) _ a _ rfl hown' _ [_] rfl ?hg rfl ?h1 ?h63 ?hby ?hba ?_; (case hg => rfl); (case h1 => simp [Value.oneCell']; done); (case h63 => exact maxLen_le (by omega)); (case hby => omega); (case hba => omega); intro v' w5 hown5 hbel5 hgr5 _)
          rw [← ints_sn] at hown5
          have HO5 := Lib.hid hown5
          have HI5 := Lib.hid (HI4.out.below hbel5)
          clear hown5 hbel5 hgr5 hown' HO4 HI4
          refine (HM.out _).mono ?_
          rintro e w7 ⟨rfl, hb3⟩
          have HI7 := Lib.hid (HI5.out.below (hb3.mono HI5.out.size))
          have HO7 := Lib.hid (own_kept HO5.out fun x h1 h2 => hb3.block x h2)
          clear hb3 HI5 HO5
          go_wp2_with fail
          go_roundw
          case rel => exact ⟨a + 1, q, dn ++ [y], k - M, i - S, by omega, by simp [HDN.out], rfl, rfl, rfl, ⟨by omega, by omega⟩, by omega, by rw [HVE.out]; have := HS.out; omega, by rw [HUN.out, HQ.out, HU.out]; simp, HO7.out, HI7.out⟩
          case measure => simp [intOf]; omega
end Go.Proofs.YtbcdnbbpkikppaaDoor
end

section
namespace Go.Proofs.YtbcdnbbpkikppaaDoor
open Go.RowKit Go.BigFrame
set_option linter.unusedSimpArgs false
set_option linter.unusedVariables false
abbrev TRd := 101
/-- What of a reader stays: its block, its bytes and where they lie. -/
structure RC where
  rb : Nat
  g : Nat
  A : Option Addr
  cap : Nat
  n : Nat
  b : Nat → Int
/-- Where it stands. -/
structure RS where
  taken : Nat
  raws : Nat
  rng : Int
  val : Int
def RC.byte (c : RC) (i : Nat) : Int := if i < c.n then c.b i else 0
def rdCells (c : RC) (s : RS) : Array Value := #[.slice c.A c.n c.cap, .int .i64 s.taken, .int .i64 s.raws, .int .u32 s.rng, .int .u32 s.val]
structure RdAt (c : RC) (s : RS) (w : World) : Prop where
  blk : w.heap[c.rb]? = some (.cells (rdCells c s) TRd (0, 0))
  adr : 0 < c.n → c.A = some ⟨c.g, 0, none⟩ ∧ c.g < w.heap.size ∧ c.g ≠ c.rb
  byt : ∀ i, i < c.n → w.cell? ⟨c.g, i, none⟩ = some (.int .u8 (c.b i)) ∧ 0 ≤ c.b i ∧ c.b i ≤ 255
theorem RC.byte_bd {c : RC} {s : RS} {w : World} (h : RdAt c s w) (i : Nat) : 0 ≤ c.byte i ∧ c.byte i ≤ 255 := by
  unfold RC.byte
  split
  · rename_i hi; exact (h.byt i hi).2
  · omega
/-- What leaves the bytes, and lays the reader so, is fine. -/
theorem RdAt.turn {c : RC} {s s' : RS} {w w' : World} (h : RdAt c s w) (hc : Chg [c.rb] w w') (hb : w'.heap[c.rb]? = some (.cells (rdCells c s') TRd (0, 0))) : RdAt c s' w' :=
  ⟨hb, fun hn => by obtain ⟨h1, h2, h3⟩ := h.adr hn; exact ⟨h1, Nat.lt_of_lt_of_le h2 hc.size, h3⟩, fun i hi => by
    obtain ⟨h1, h2, h3⟩ := h.adr (by omega)
    exact ⟨(hc.cell c.g i h2 (by simpa using h3)).trans (h.byt i hi).1, (h.byt i hi).2⟩⟩
theorem RdAt.keep {c : RC} {s : RS} {l : List Nat} {w w' : World} (h : RdAt c s w) (hc : Chg l w w') (h1 : c.rb ∉ l) (h2 : c.g ∉ l) : RdAt c s w' :=
  ⟨hc.keepB h.blk h1, fun hn => by obtain ⟨a1, a2, a3⟩ := h.adr hn; exact ⟨a1, Nat.lt_of_lt_of_le a2 hc.size, a3⟩, fun i hi => by
    obtain ⟨a1, a2, a3⟩ := h.adr (by omega)
    exact ⟨(hc.cell c.g i a2 h2).trans (h.byt i hi).1, (h.byt i hi).2⟩⟩
theorem RdAt.keep0 {c : RC} {s : RS} {w w' : World} (h : RdAt c s w) (hb : Below w.heap.size w w') : RdAt c s w' := h.keep (l := []) (Chg.of_below hb) (by simp) (by simp)
theorem RdAt.c0 {c s} {w : World} (h : RdAt c s w) : w.cell? ⟨c.rb, 0, none⟩ = some (.slice c.A c.n c.cap) := (block_facts h.blk).1 0
theorem RdAt.c1 {c s} {w : World} (h : RdAt c s w) : w.cell? ⟨c.rb, 1, none⟩ = some (.int .i64 s.taken) := (block_facts h.blk).1 1
theorem RdAt.c2 {c s} {w : World} (h : RdAt c s w) : w.cell? ⟨c.rb, 2, none⟩ = some (.int .i64 s.raws) := (block_facts h.blk).1 2
theorem RdAt.c3 {c s} {w : World} (h : RdAt c s w) : w.cell? ⟨c.rb, 3, none⟩ = some (.int .u32 s.rng) := (block_facts h.blk).1 3
theorem RdAt.c4 {c s} {w : World} (h : RdAt c s w) : w.cell? ⟨c.rb, 4, none⟩ = some (.int .u32 s.val) := (block_facts h.blk).1 4
theorem RdAt.fz {c s} {w : World} (h : RdAt c s w) (i : Nat) : w.frozen? ⟨c.rb, i, none⟩ = false := (block_facts h.blk).2.1 i
theorem RdAt.lt {c s} {w : World} (h : RdAt c s w) : c.rb < w.heap.size := (block_facts h.blk).2.2
theorem RdAt.set1 {c s} {w : World} (h : RdAt c s w) (x : Nat) : RdAt c { s with taken := x } (w.setCell ⟨c.rb, 1, none⟩ (.int .i64 x)) :=
  h.turn ((Chg.refl _ _).setCell _ (by simp)) (setCell_own _ _ _ _ _ _ _ h.blk)
theorem RdAt.set3 {c s} {w : World} (h : RdAt c s w) (x : Int) : RdAt c { s with rng := x } (w.setCell ⟨c.rb, 3, none⟩ (.int .u32 x)) :=
  h.turn ((Chg.refl _ _).setCell _ (by simp)) (setCell_own _ _ _ _ _ _ _ h.blk)
theorem RdAt.set4 {c s} {w : World} (h : RdAt c s w) (x : Int) : RdAt c { s with val := x } (w.setCell ⟨c.rb, 4, none⟩ (.int .u32 x)) :=
  h.turn ((Chg.refl _ _).setCell _ (by simp)) (setCell_own _ _ _ _ _ _ _ h.blk)
set_option maxHeartbeats 2000000 in
set_option maxRecDepth 100000 in
theorem rdNext (c : RC) (s : RS) (ht : s.taken ≤ 1000000) (w : World) (h : RdAt c s w) (hcn : c.n ≤ 1000000) :
    Calls Tryd.prog 44 #[.pointer (some ⟨c.rb, 0, none⟩)] w fun e w' => e = .returned (.int .u32 (c.byte s.taken)) ∧ RdAt c { s with taken := s.taken + 1 } w' ∧ Chg [c.rb] w w' := by
  have H := Lib.hid h
  have c1 := h.c1
  have f1 := h.fz 1
  have hl := h.lt
  obtain ⟨tk, htk⟩ : ∃ t, s.taken = t := ⟨_, rfl⟩
  rw [htk] at c1 ht ⊢
  have HTK := Lib.hid htk
  clear h htk
  go_enter Tryd.func44, Tryd.ntmps44
  go_upto_region 2 with fail
  have h2 := H.out.set1 (tk + 1)
  refine cut_world (fun W => RdAt c { s with taken := tk + 1 } W ∧ Chg [c.rb] w W) ⟨h2, (Chg.refl _ _).setCell _ (by simp)⟩ ?_
  clear c1 f1 hl H h2
  rintro V ⟨hR, hC⟩
  have HR := Lib.hid hR
  have HC := Lib.hid hC
  have c0 := hR.c0
  have c1 := hR.c1
  simp only at c1
  clear hR hC
  by_cases hlt : tk < c.n
  · obtain ⟨hA, hg, hgr⟩ := HR.out.adr (by omega)
    obtain ⟨hb, hb0, hb1⟩ := HR.out.byt tk hlt
    have HB := Lib.hid (show c.byte tk = c.b tk by unfold RC.byte; rw [if_pos hlt])
    rw [hA] at c0
    have hlt' : (tk : Int) < c.n := by omega
    go_quiet (fail)
    go_upto_region 4 with fail
    refine cut_world (fun W => RdAt c { s with taken := tk + 1 } W ∧ Chg [c.rb] w W) ⟨HR.out.keep0 (below_drewN (Below.refl _ _) _), HC.out.drewN _⟩ ?_
    clear HR HC c0 c1 hA hb hg
    rintro Z ⟨hR, hC⟩
    obtain ⟨hA, hg, hgr⟩ := hR.adr (by omega)
    obtain ⟨hb, -, -⟩ := hR.byt tk hlt
    have HR := Lib.hid hR
    have HC := Lib.hid hC
    have c0 := hR.c0
    have c1 := hR.c1
    simp only at c1
    rw [hA] at c0
    clear hR hC hA
    generalize c.n = n at *
    generalize c.cap = cap at *
    generalize c.b tk = bt at *
    have hlt' : (tk : Int) < n := by omega
    go_quiet (fail)
    go_wp2_with fail
    go_ret
    exact ⟨by rw [HB.out]; rfl, HR.out.keep0 (below_drewN (Below.refl _ _) _), HC.out.drewN _⟩
  · have HB := Lib.hid (show c.byte tk = 0 by unfold RC.byte; rw [if_neg hlt])
    have hlt' : ¬ (tk : Int) < c.n := by omega
    generalize c.n = n at *
    generalize c.cap = cap at *
    generalize c.A = A at *
    go_quiet (fail)
    go_wp2_with fail
    go_ret
    exact ⟨by rw [HB.out]; rfl, HR.out.keep0 (below_drewN (Below.refl _ _) _), HC.out.drewN _⟩
theorem rdRight (t : Int) (w : World) : Calls Tryd.prog 141 #[.int .i64 t] w fun e w' => e = .returned (.bool (decide (1 ≤ t ∧ t ≤ 4096))) ∧ Below w.heap.size w w' := by
  by_cases h1 : 1 ≤ t
  · by_cases h2 : t ≤ 4096
    · have e := decide_eq_true (show 1 ≤ t ∧ t ≤ 4096 from ⟨h1, h2⟩)
      rw [e]
      clear e
      go_enter Tryd.func141, Tryd.ntmps141
      go_wp2_with fail
      go_ret
      exact ⟨rfl, by (repeat' (first | with_reducible (first | exact Below.refl _ _ | assumption | refine Below.alloc ?_ ?_ _ | refine below_grew ?_ ?_ _ | refine Below.setCell ?_ ?_ _ | refine Below.drew ?_ | refine below_drewN ?_ _) | omega | (simp; done) | (simp; omega)))⟩
    · have e := decide_eq_false (show ¬ (1 ≤ t ∧ t ≤ 4096) by omega)
      rw [e]
      clear e
      go_enter Tryd.func141, Tryd.ntmps141
      go_wp2_with fail
      go_ret
      exact ⟨rfl, by (repeat' (first | with_reducible (first | exact Below.refl _ _ | assumption | refine Below.alloc ?_ ?_ _ | refine below_grew ?_ ?_ _ | refine Below.setCell ?_ ?_ _ | refine Below.drew ?_ | refine below_drewN ?_ _) | omega | (simp; done) | (simp; omega)))⟩
  · have e := decide_eq_false (show ¬ (1 ≤ t ∧ t ≤ 4096) by omega)
    rw [e]
    clear e
    go_enter Tryd.func141, Tryd.ntmps141
    go_wp2_with fail
    go_ret
    exact ⟨rfl, by (repeat' (first | with_reducible (first | exact Below.refl _ _ | assumption | refine Below.alloc ?_ ?_ _ | refine below_grew ?_ ?_ _ | refine Below.setCell ?_ ?_ _ | refine Below.drew ?_ | refine below_drewN ?_ _) | omega | (simp; done) | (simp; omega)))⟩
set_option maxHeartbeats 1000000 in
theorem rdRng (c : RC) (s : RS) (w : World) (h : RdAt c s w) : Calls Tryd.prog 139 #[.pointer (some ⟨c.rb, 0, none⟩)] w fun e w' => e = .returned (.int .u32 s.rng) ∧ Below w.heap.size w w' := by
  have c3 := h.c3
  clear h
  generalize s.rng = x at *
  generalize c.rb = rb at *
  go_enter Tryd.func139, Tryd.ntmps139
  go_wp2_with fail
  go_ret
  exact ⟨rfl, by (repeat' (first | with_reducible (first | exact Below.refl _ _ | assumption | refine Below.alloc ?_ ?_ _ | refine below_grew ?_ ?_ _ | refine Below.setCell ?_ ?_ _ | refine Below.drew ?_ | refine below_drewN ?_ _) | omega | (simp; done) | (simp; omega)))⟩
def RS.left (c : RC) (s : RS) : Int := 8 * ((c.n : Int) - s.taken) - s.raws
set_option maxHeartbeats 1000000 in
theorem rdLeft (c : RC) (s : RS) (w : World) (h : RdAt c s w) (hn : c.n ≤ 1000000) (ht : s.taken ≤ 1000000) (hr : s.raws ≤ 1000000) : Calls Tryd.prog 20 #[.pointer (some ⟨c.rb, 0, none⟩)] w fun e w' => e = .returned (.int .i64 (s.left c)) ∧ Below w.heap.size w w' := by
  have c0 := h.c0
  have c1 := h.c1
  have c2 := h.c2
  have HL := Lib.hid (show s.left c = 8 * ((c.n : Int) - s.taken) - s.raws from rfl)
  clear h
  generalize c.rb = rb at *
  generalize s.left c = L at *
  generalize c.A = A at *
  generalize c.cap = cap at *
  generalize c.n = n at *
  generalize s.taken = tk at *
  generalize s.raws = rw at *
  have n0 : (0 : Int) ≤ n ∧ (n : Int) ≤ 1000000 := by omega
  have n1 : (0 : Int) ≤ tk ∧ (tk : Int) ≤ 1000000 := by omega
  have n2 : (0 : Int) ≤ rw ∧ (rw : Int) ≤ 1000000 := by omega
  obtain ⟨n00, n01⟩ := n0
  obtain ⟨n10, n11⟩ := n1
  obtain ⟨n20, n21⟩ := n2
  go_enter Tryd.func20, Tryd.ntmps20
  go_upto_region 1 with fail
  go_quiet (fail)
  go_wp2_with fail
  go_ret
  exact ⟨by rw [HL.out]; rfl, below_drewN (Below.refl _ _) _⟩
end Go.Proofs.YtbcdnbbpkikppaaDoor
end

section
namespace Go.Proofs.YtbcdnbbpkikppaaDoor
open Go.RowKit Go.BigFrame
set_option linter.unusedSimpArgs false
set_option linter.unusedVariables false
structure RsOk (s : RS) : Prop where
  r0 : 65536 < s.rng
  r1 : s.rng ≤ 16777216
  v0 : 0 ≤ s.val
  v1 : s.val < s.rng
def getF (s : RS) (t : Int) : Int := if 1 ≤ t ∧ t ≤ 4096 then min (s.val / (s.rng / t)) (t - 1) else 0
/-- A part of the range. -/
theorem part_bd (r t : Int) (h0 : 65536 < r) (h1 : r ≤ 16777216) (h2 : 1 ≤ t) (h3 : t ≤ 4096) : 16 ≤ r / t ∧ r / t ≤ 16777216 ∧ (r / t) * t ≤ r ∧ 0 ≤ r - (r / t) * t ∧ r - (r / t) * t < t := by
  have a := Int.emod_def r t
  have b := Int.emod_nonneg r (show t ≠ 0 by omega)
  have c := Int.emod_lt_of_pos r (show 0 < t by omega)
  rw [Int.mul_comm t] at a
  refine ⟨?_, ?_, by omega, by omega, by omega⟩
  · rw [Int.le_ediv_iff_mul_le (by omega)]; omega
  · have : r / t ≤ r := Int.ediv_le_self t (by omega)
    omega
set_option maxHeartbeats 2000000 in
set_option maxRecDepth 100000 in
theorem rdGet (c : RC) (s : RS) (hok : RsOk s) (t : Int) (w : World) (h : RdAt c s w) : Calls Tryd.prog 137 #[.pointer (some ⟨c.rb, 0, none⟩), .int .i64 t] w fun e w' => e = .returned (.int .i64 (getF s t)) ∧ Below w.heap.size w w' := by
  have hri := Lib.hid (fun w => rdRight t w)
  by_cases hb : 1 ≤ t ∧ t ≤ 4096
  · have HG := Lib.hid (show getF s t = min (s.val / (s.rng / t)) (t - 1) by unfold getF; rw [if_pos hb])
    have e := decide_eq_true hb
    rw [e] at hri
    obtain ⟨t1, t2⟩ := hb
    obtain ⟨p1, p2, -, -, -⟩ := part_bd s.rng t hok.r0 hok.r1 t1 t2
    obtain ⟨r0, r1, v0, v1⟩ := hok
    have H := Lib.hid h
    clear h e
    go_enter Tryd.func137, Tryd.ntmps137
    go_wp2_with fail
    refine (hri.out _).mono ?_
    rintro e w1 ⟨rfl, hb1⟩
    go_upto_region 3 with fail
    refine cut_world (fun W => RdAt c s W ∧ Below w.heap.size w W) ⟨H.out.keep0 hb1, hb1⟩ ?_
    clear hb1 H
    rintro V ⟨hR, hB⟩
    have HB := Lib.hid hB
    have c3 := hR.c3
    have c4 := hR.c4
    have hl := hR.lt
    clear hR hB
    generalize s.rng = r at *
    generalize s.val = v at *
    generalize c.rb = rb at *
    have hq1 : r.tdiv t = r / t := Int.tdiv_eq_ediv_of_nonneg (by omega)
    have hq2 : v.tdiv (r / t) = v / (r / t) := Int.tdiv_eq_ediv_of_nonneg (by omega)
    have ht0 : ¬ t = 0 := by omega
    have hd0 : 0 ≤ v / (r / t) := Int.ediv_nonneg v0 (by omega)
    have hd1 : v / (r / t) ≤ v := Int.ediv_le_self _ v0
    refine wp_region_inv [] (fun W => Below V.heap.size V W) (fun W W' => Below W.heap.size W W') 16 (by kernel_rfl) (by kernel_rfl) (by kernel_rfl) ((Below.refl _ _).drew) (fun W W' h h' => h.trans (h'.mono h.size)) (fun _ _ h => h.size) ?_
    simp only [List.take_succ_cons, List.take_zero, List.drop_succ_cons, List.drop_zero]
    refine wpInv_det (by kernel_rfl) (by kernel_rfl) ?_
    apply Exists.intro
    refine ⟨?_, ?_, ?_⟩
    · intro U W hC hH
      have hc1 := (bcell hC).1
      have hf1 := (bcell hC).2
      simp only [HypsU, predsOf, Region.binds, List.filterMap_cons, List.filterMap_nil, if_true, List.nil_append, List.cons_append, List.getD_cons_zero, List.getD_cons_succ] at hH
      simp only [fillPuts, Act.put, List.setIfInBounds_toArray, List.set_cons_zero, List.set_cons_succ, Nat.reduceAdd]
      go_wp2_with fail
      refine ⟨rfl, rfl, by (repeat' (first | with_reducible (first | exact Below.refl _ _ | assumption | refine Below.alloc ?_ ?_ _ | refine below_grew ?_ ?_ _ | refine Below.setCell ?_ ?_ _ | refine Below.drew ?_ | refine below_drewN ?_ _) | omega | (simp; done) | (simp; omega))), ?_⟩
      conv => lhs; whnf
      try rfl
    · exact fun _ => rfl
    simp only [List.nil_append, List.cons_append, Nat.reduceAdd]
    refine wpInv_det (by kernel_rfl) (by kernel_rfl) ?_
    apply Exists.intro
    refine ⟨?_, ?_, ?_⟩
    · intro U W hC hH
      have hc1 := (bcell hC).1
      have hf1 := (bcell hC).2
      simp only [HypsU, predsOf, Region.binds, List.filterMap_cons, List.filterMap_nil, if_true, List.nil_append, List.cons_append, List.getD_cons_zero, List.getD_cons_succ] at hH
      simp only [fillPuts, Act.put, List.setIfInBounds_toArray, List.set_cons_zero, List.set_cons_succ, Nat.reduceAdd]
      go_wp2_with fail
      refine ⟨rfl, rfl, by (repeat' (first | with_reducible (first | exact Below.refl _ _ | assumption | refine Below.alloc ?_ ?_ _ | refine below_grew ?_ ?_ _ | refine Below.setCell ?_ ?_ _ | refine Below.drew ?_ | refine below_drewN ?_ _) | omega | (simp; done) | (simp; omega))), ?_⟩
      conv => lhs; whnf
      try rfl
    · exact fun _ => rfl
    simp only [List.nil_append, List.cons_append, Nat.reduceAdd]
    refine wpInv_det (by kernel_rfl) (by kernel_rfl) ?_
    apply Exists.intro
    refine ⟨?_, ?_, ?_⟩
    · intro U W hC hH
      have hc1 := (bcell hC).1
      have hf1 := (bcell hC).2
      simp only [HypsU, predsOf, Region.binds, List.filterMap_cons, List.filterMap_nil, if_true, List.nil_append, List.cons_append, List.getD_cons_zero, List.getD_cons_succ] at hH
      simp only [fillPuts, Act.put, List.setIfInBounds_toArray, List.set_cons_zero, List.set_cons_succ, Nat.reduceAdd]
      go_wp2_with fail
      refine ⟨rfl, rfl, by (repeat' (first | with_reducible (first | exact Below.refl _ _ | assumption | refine Below.alloc ?_ ?_ _ | refine below_grew ?_ ?_ _ | refine Below.setCell ?_ ?_ _ | refine Below.drew ?_ | refine below_drewN ?_ _) | omega | (simp; done) | (simp; omega))), ?_⟩
      conv => lhs; whnf
      try rfl
    · exact fun _ => rfl
    simp only [List.nil_append, List.cons_append, Nat.reduceAdd]
    refine wpInv_det (by kernel_rfl) (by kernel_rfl) ?_
    apply Exists.intro
    refine ⟨?_, ?_, ?_⟩
    · intro U W hC hH
      have hc1 := (bcell hC).1
      have hf1 := (bcell hC).2
      simp only [HypsU, predsOf, Region.binds, List.filterMap_cons, List.filterMap_nil, if_true, List.nil_append, List.cons_append, List.getD_cons_zero, List.getD_cons_succ] at hH
      simp only [fillPuts, Act.put, List.setIfInBounds_toArray, List.set_cons_zero, List.set_cons_succ, Nat.reduceAdd]
      go_wp2_with fail
      refine ⟨rfl, rfl, by (repeat' (first | with_reducible (first | exact Below.refl _ _ | assumption | refine Below.alloc ?_ ?_ _ | refine below_grew ?_ ?_ _ | refine Below.setCell ?_ ?_ _ | refine Below.drew ?_ | refine below_drewN ?_ _) | omega | (simp; done) | (simp; omega))), ?_⟩
      conv => lhs; whnf
      try rfl
    · exact fun _ => rfl
    simp only [List.nil_append, List.cons_append, Nat.reduceAdd]
    refine wpInv_det (by kernel_rfl) (by kernel_rfl) ?_
    apply Exists.intro
    refine ⟨?_, ?_, ?_⟩
    · intro U W hC hH
      have hc1 := (bcell hC).1
      have hf1 := (bcell hC).2
      simp only [HypsU, predsOf, Region.binds, List.filterMap_cons, List.filterMap_nil, if_true, List.nil_append, List.cons_append, List.getD_cons_zero, List.getD_cons_succ] at hH
      simp only [fillPuts, Act.put, List.setIfInBounds_toArray, List.set_cons_zero, List.set_cons_succ, Nat.reduceAdd]
      go_wp2_with fail
      refine ⟨rfl, rfl, by (repeat' (first | with_reducible (first | exact Below.refl _ _ | assumption | refine Below.alloc ?_ ?_ _ | refine below_grew ?_ ?_ _ | refine Below.setCell ?_ ?_ _ | refine Below.drew ?_ | refine below_drewN ?_ _) | omega | (simp; done) | (simp; omega))), ?_⟩
      conv => lhs; whnf
      try rfl
    · exact fun _ => rfl
    simp only [List.nil_append, List.cons_append, Nat.reduceAdd]
    refine wpInv_det (by kernel_rfl) (by kernel_rfl) ?_
    apply Exists.intro
    refine ⟨?_, ?_, ?_⟩
    · intro U W hC hH
      have hc1 := (bcell hC).1
      have hf1 := (bcell hC).2
      simp only [HypsU, predsOf, Region.binds, List.filterMap_cons, List.filterMap_nil, if_true, List.nil_append, List.cons_append, List.getD_cons_zero, List.getD_cons_succ] at hH
      simp only [fillPuts, Act.put, List.setIfInBounds_toArray, List.set_cons_zero, List.set_cons_succ, Nat.reduceAdd]
      go_wp2_with fail
      refine ⟨rfl, rfl, by (repeat' (first | with_reducible (first | exact Below.refl _ _ | assumption | refine Below.alloc ?_ ?_ _ | refine below_grew ?_ ?_ _ | refine Below.setCell ?_ ?_ _ | refine Below.drew ?_ | refine below_drewN ?_ _) | omega | (simp; done) | (simp; omega))), ?_⟩
      conv => lhs; whnf
      try rfl
    · exact fun _ => rfl
    simp only [List.nil_append, List.cons_append, Nat.reduceAdd]
    refine wpInv_det (by kernel_rfl) (by kernel_rfl) ?_
    apply Exists.intro
    refine ⟨?_, ?_, ?_⟩
    · intro U W hC hH
      have hc1 := (bcell hC).1
      have hf1 := (bcell hC).2
      simp only [HypsU, predsOf, Region.binds, List.filterMap_cons, List.filterMap_nil, if_true, List.nil_append, List.cons_append, List.getD_cons_zero, List.getD_cons_succ] at hH
      simp only [fillPuts, Act.put, List.setIfInBounds_toArray, List.set_cons_zero, List.set_cons_succ, Nat.reduceAdd]
      go_wp2_with fail
      refine ⟨rfl, rfl, by (repeat' (first | with_reducible (first | exact Below.refl _ _ | assumption | refine Below.alloc ?_ ?_ _ | refine below_grew ?_ ?_ _ | refine Below.setCell ?_ ?_ _ | refine Below.drew ?_ | refine below_drewN ?_ _) | omega | (simp; done) | (simp; omega))), ?_⟩
      conv => lhs; whnf
      try rfl
    · exact fun _ => rfl
    simp only [List.nil_append, List.cons_append, Nat.reduceAdd]
    refine wpInv_det (by kernel_rfl) (by kernel_rfl) ?_
    apply Exists.intro
    refine ⟨?_, ?_, ?_⟩
    · intro U W hC hH
      have hc1 := (bcell hC).1
      have hf1 := (bcell hC).2
      simp only [HypsU, predsOf, Region.binds, List.filterMap_cons, List.filterMap_nil, if_true, List.nil_append, List.cons_append, List.getD_cons_zero, List.getD_cons_succ] at hH
      simp only [fillPuts, Act.put, List.setIfInBounds_toArray, List.set_cons_zero, List.set_cons_succ, Nat.reduceAdd]
      go_wp2_with fail
      refine ⟨rfl, rfl, by (repeat' (first | with_reducible (first | exact Below.refl _ _ | assumption | refine Below.alloc ?_ ?_ _ | refine below_grew ?_ ?_ _ | refine Below.setCell ?_ ?_ _ | refine Below.drew ?_ | refine below_drewN ?_ _) | omega | (simp; done) | (simp; omega))), ?_⟩
      conv => lhs; whnf
      try rfl
    · exact fun _ => rfl
    simp only [List.nil_append, List.cons_append, Nat.reduceAdd]
    refine wpInv_det (by kernel_rfl) (by kernel_rfl) ?_
    apply Exists.intro
    refine ⟨?_, ?_, ?_⟩
    · intro U W hC hH
      have hc1 := (bcell hC).1
      have hf1 := (bcell hC).2
      simp only [HypsU, predsOf, Region.binds, List.filterMap_cons, List.filterMap_nil, if_true, List.nil_append, List.cons_append, List.getD_cons_zero, List.getD_cons_succ] at hH
      simp only [fillPuts, Act.put, List.setIfInBounds_toArray, List.set_cons_zero, List.set_cons_succ, Nat.reduceAdd]
      go_wp2_with fail
      refine ⟨rfl, rfl, by (repeat' (first | with_reducible (first | exact Below.refl _ _ | assumption | refine Below.alloc ?_ ?_ _ | refine below_grew ?_ ?_ _ | refine Below.setCell ?_ ?_ _ | refine Below.drew ?_ | refine below_drewN ?_ _) | omega | (simp; done) | (simp; omega))), ?_⟩
      conv => lhs; whnf
      try rfl
    · exact fun _ => rfl
    simp only [List.nil_append, List.cons_append, Nat.reduceAdd]
    refine wpInv_det (by kernel_rfl) (by kernel_rfl) ?_
    apply Exists.intro
    refine ⟨?_, ?_, ?_⟩
    · intro U W hC hH
      have hc1 := (bcell hC).1
      have hf1 := (bcell hC).2
      simp only [HypsU, predsOf, Region.binds, List.filterMap_cons, List.filterMap_nil, if_true, List.nil_append, List.cons_append, List.getD_cons_zero, List.getD_cons_succ] at hH
      simp only [fillPuts, Act.put, List.setIfInBounds_toArray, List.set_cons_zero, List.set_cons_succ, Nat.reduceAdd]
      (try simp only [hH]); go_wp2_with fail
      refine ⟨rfl, rfl, by (repeat' (first | with_reducible (first | exact Below.refl _ _ | assumption | refine Below.alloc ?_ ?_ _ | refine below_grew ?_ ?_ _ | refine Below.setCell ?_ ?_ _ | refine Below.drew ?_ | refine below_drewN ?_ _) | omega | (simp; done) | (simp; omega))), ?_⟩
      conv => lhs; whnf
      try rfl
    · exact fun _ => rfl
    simp only [List.nil_append, List.cons_append, Nat.reduceAdd]
    refine wpInv_det (by kernel_rfl) (by kernel_rfl) ?_
    apply Exists.intro
    refine ⟨?_, ?_, ?_⟩
    · intro U W hC hH
      have hc1 := (bcell hC).1
      have hf1 := (bcell hC).2
      simp only [HypsU, predsOf, Region.binds, List.filterMap_cons, List.filterMap_nil, if_true, List.nil_append, List.cons_append, List.getD_cons_zero, List.getD_cons_succ] at hH
      simp only [fillPuts, Act.put, List.setIfInBounds_toArray, List.set_cons_zero, List.set_cons_succ, Nat.reduceAdd]
      (try simp only [hH]); go_wp2_with fail
      refine ⟨rfl, rfl, by (repeat' (first | with_reducible (first | exact Below.refl _ _ | assumption | refine Below.alloc ?_ ?_ _ | refine below_grew ?_ ?_ _ | refine Below.setCell ?_ ?_ _ | refine Below.drew ?_ | refine below_drewN ?_ _) | omega | (simp; done) | (simp; omega))), ?_⟩
      conv => lhs; whnf
      try rfl
    · exact fun _ => rfl
    simp only [List.nil_append, List.cons_append, Nat.reduceAdd]
    refine wpInv_det (by kernel_rfl) (by kernel_rfl) ?_
    apply Exists.intro
    refine ⟨?_, ?_, ?_⟩
    · intro U W hC hH
      have hc1 := (bcell hC).1
      have hf1 := (bcell hC).2
      simp only [HypsU, predsOf, Region.binds, List.filterMap_cons, List.filterMap_nil, if_true, List.nil_append, List.cons_append, List.getD_cons_zero, List.getD_cons_succ] at hH
      simp only [fillPuts, Act.put, List.setIfInBounds_toArray, List.set_cons_zero, List.set_cons_succ, Nat.reduceAdd]
      (try simp only [hH]); go_wp2_with fail
      refine ⟨rfl, rfl, by (repeat' (first | with_reducible (first | exact Below.refl _ _ | assumption | refine Below.alloc ?_ ?_ _ | refine below_grew ?_ ?_ _ | refine Below.setCell ?_ ?_ _ | refine Below.drew ?_ | refine below_drewN ?_ _) | omega | (simp; done) | (simp; omega))), ?_⟩
      conv => lhs; whnf
      try rfl
    · exact fun _ => rfl
    simp only [List.nil_append, List.cons_append, Nat.reduceAdd]
    refine wpInv_det (by kernel_rfl) (by kernel_rfl) ?_
    apply Exists.intro
    refine ⟨?_, ?_, ?_⟩
    · intro U W hC hH
      have hc1 := (bcell hC).1
      have hf1 := (bcell hC).2
      simp only [HypsU, predsOf, Region.binds, List.filterMap_cons, List.filterMap_nil, if_true, List.nil_append, List.cons_append, List.getD_cons_zero, List.getD_cons_succ] at hH
      simp only [fillPuts, Act.put, List.setIfInBounds_toArray, List.set_cons_zero, List.set_cons_succ, Nat.reduceAdd]
      (try simp only [hH]); go_wp2_with fail
      refine ⟨rfl, rfl, by (repeat' (first | with_reducible (first | exact Below.refl _ _ | assumption | refine Below.alloc ?_ ?_ _ | refine below_grew ?_ ?_ _ | refine Below.setCell ?_ ?_ _ | refine Below.drew ?_ | refine below_drewN ?_ _) | omega | (simp; done) | (simp; omega))), ?_⟩
      conv => lhs; whnf
      try rfl
    · exact fun _ => rfl
    simp only [List.nil_append, List.cons_append, Nat.reduceAdd]
    refine wpInv_det (by kernel_rfl) (by kernel_rfl) ?_
    apply Exists.intro
    refine ⟨?_, ?_, ?_⟩
    · intro U W hC hH
      have hc1 := (bcell hC).1
      have hf1 := (bcell hC).2
      simp only [HypsU, predsOf, Region.binds, List.filterMap_cons, List.filterMap_nil, if_true, List.nil_append, List.cons_append, List.getD_cons_zero, List.getD_cons_succ] at hH
      simp only [fillPuts, Act.put, List.setIfInBounds_toArray, List.set_cons_zero, List.set_cons_succ, Nat.reduceAdd]
      go_wp2_with fail
      refine ⟨rfl, rfl, by (repeat' (first | with_reducible (first | exact Below.refl _ _ | assumption | refine Below.alloc ?_ ?_ _ | refine below_grew ?_ ?_ _ | refine Below.setCell ?_ ?_ _ | refine Below.drew ?_ | refine below_drewN ?_ _) | omega | (simp; done) | (simp; omega))), ?_⟩
      conv => lhs; whnf
      try rfl
    · exact fun _ => rfl
    simp only [List.nil_append, List.cons_append, Nat.reduceAdd]
    refine wpInv_det (by kernel_rfl) (by kernel_rfl) ?_
    apply Exists.intro
    refine ⟨?_, ?_, ?_⟩
    · intro U W hC hH
      have hc1 := (bcell hC).1
      have hf1 := (bcell hC).2
      simp only [HypsU, predsOf, Region.binds, List.filterMap_cons, List.filterMap_nil, if_true, List.nil_append, List.cons_append, List.getD_cons_zero, List.getD_cons_succ] at hH
      simp only [fillPuts, Act.put, List.setIfInBounds_toArray, List.set_cons_zero, List.set_cons_succ, Nat.reduceAdd]
      (try simp only [hH]); go_wp2_with fail
      refine ⟨rfl, rfl, by (repeat' (first | with_reducible (first | exact Below.refl _ _ | assumption | refine Below.alloc ?_ ?_ _ | refine below_grew ?_ ?_ _ | refine Below.setCell ?_ ?_ _ | refine Below.drew ?_ | refine below_drewN ?_ _) | omega | (simp; done) | (simp; omega))), ?_⟩
      conv => lhs; whnf
      try rfl
    · exact fun _ => rfl
    simp only [List.nil_append, List.cons_append, Nat.reduceAdd]
    refine wpInv_det (by kernel_rfl) (by kernel_rfl) ?_
    apply Exists.intro
    refine ⟨?_, ?_, ?_⟩
    · intro U W hC hH
      have hc1 := (bcell hC).1
      have hf1 := (bcell hC).2
      simp only [HypsU, predsOf, Region.binds, List.filterMap_cons, List.filterMap_nil, if_true, List.nil_append, List.cons_append, List.getD_cons_zero, List.getD_cons_succ] at hH
      simp only [fillPuts, Act.put, List.setIfInBounds_toArray, List.set_cons_zero, List.set_cons_succ, Nat.reduceAdd]
      (try simp only [hH]); go_wp2_with fail
      refine ⟨rfl, rfl, by (repeat' (first | with_reducible (first | exact Below.refl _ _ | assumption | refine Below.alloc ?_ ?_ _ | refine below_grew ?_ ?_ _ | refine Below.setCell ?_ ?_ _ | refine Below.drew ?_ | refine below_drewN ?_ _) | omega | (simp; done) | (simp; omega))), ?_⟩
      conv => lhs; whnf
      try rfl
    · exact fun _ => rfl
    simp only [List.nil_append, List.cons_append, Nat.reduceAdd]
    simp only [List.nil_append, List.cons_append, Nat.reduceAdd, fillPuts, Act.put, List.setIfInBounds_toArray, List.set_cons_zero, List.set_cons_succ]
    rintro U W hC ⟨h0, h1, h2, h3, h4, h5, h6, h7, h8, h9, h10, h11, h12, h13, h14, h15, -⟩ -
    simp only [h0, h1, h2, h3, h4, h5, h6, h7, h8, h9, h10, h11, h12, h13, h14, h15]
    clear h0 h1 h2 h3 h4 h5 h6 h7 h8 h9 h10 h11 h12 h13 h14 h15
    go_wp2_with fail
    go_ret
    exact ⟨by rw [HG.out]; rfl, HB.out.trans (hC.mono HB.out.size)⟩
  · have HG := Lib.hid (show getF s t = 0 by unfold getF; rw [if_neg hb])
    have e := decide_eq_false hb
    rw [e] at hri
    clear e hb
    go_enter Tryd.func137, Tryd.ntmps137
    go_wp2_with fail
    refine (hri.out _).mono ?_
    rintro e w' ⟨rfl, hb1⟩; obtain ⟨x1, rfl⟩ := below_as_grew hb1; clear hb1
    go_wp2_with fail
    go_ret
    exact ⟨by rw [HG.out]; rfl, by (repeat' (first | with_reducible (first | exact Below.refl _ _ | assumption | refine Below.alloc ?_ ?_ _ | refine below_grew ?_ ?_ _ | refine Below.setCell ?_ ?_ _ | refine Below.drew ?_ | refine below_drewN ?_ _) | omega | (simp; done) | (simp; omega)))⟩
/-- One more byte, where the range has grown small. -/
def normS (c : RC) (s : RS) : RS := if s.rng ≤ 65536 then { taken := s.taken + 1, raws := s.raws, rng := s.rng * 256, val := s.val * 256 + c.byte s.taken } else s
def cutS (s : RS) (f e t : Int) : RS :=
  let p := s.rng / t
  let r := if e = t then s.rng - f * p else (e - f) * p
  { taken := s.taken, raws := s.raws, rng := r, val := min (s.val - min (f * p) s.val) (r - 1) }
def takeF (c : RC) (s : RS) (f e t : Int) : RS := if (1 ≤ t ∧ t ≤ 4096) ∧ 0 ≤ f ∧ f < e ∧ e ≤ t then normS c (normS c (cutS s f e t)) else s
theorem cut_bd (s : RS) (hok : RsOk s) (f e t : Int) (ht : 1 ≤ t ∧ t ≤ 4096) (hf : 0 ≤ f) (hfe : f < e) (het : e ≤ t) : 16 ≤ (cutS s f e t).rng ∧ (cutS s f e t).rng ≤ 16777216 ∧ 0 ≤ (cutS s f e t).val ∧ (cutS s f e t).val < (cutS s f e t).rng ∧ 0 ≤ f * (s.rng / t) ∧ f * (s.rng / t) ≤ s.rng ∧ 0 ≤ (e - f) * (s.rng / t) ∧ (e - f) * (s.rng / t) ≤ s.rng := by
  obtain ⟨p1, p2, p3, p4, p5⟩ := part_bd s.rng t hok.r0 hok.r1 ht.1 ht.2
  obtain ⟨r0, r1, v0, v1⟩ := hok
  unfold cutS
  simp only
  generalize s.rng / t = p at *
  have hp0 : 0 ≤ p := by omega
  have a1 : 0 ≤ f * p := Int.mul_nonneg hf hp0
  have a2 : f * p ≤ (t - 1) * p := Int.mul_le_mul_of_nonneg_right (by omega) hp0
  have a3 : (t - 1) * p = p * t - p := by rw [Int.sub_mul, Int.mul_comm t p, Int.one_mul]
  have b1 : 1 * p ≤ (e - f) * p := Int.mul_le_mul_of_nonneg_right (by omega) hp0
  have b2 : (e - f) * p ≤ t * p := Int.mul_le_mul_of_nonneg_right (by omega) hp0
  rw [Int.mul_comm t p] at b2
  generalize f * p = fp at *
  generalize (e - f) * p = ep at *
  split <;> refine ⟨?_, ?_, ?_, ?_, ?_, ?_, ?_, ?_⟩ <;> omega
theorem norm_ok (c : RC) (s : RS) (hb : ∀ i, 0 ≤ c.byte i ∧ c.byte i ≤ 255) (h0 : 16 ≤ s.rng) (h1 : s.rng ≤ 16777216) (h2 : 0 ≤ s.val) (h3 : s.val < s.rng) : RsOk (normS c (normS c s)) := by
  have step : ∀ s : RS, 0 ≤ s.val → s.val < s.rng → s.rng ≤ 16777216 → 0 ≤ (normS c s).val ∧ (normS c s).val < (normS c s).rng ∧ (normS c s).rng ≤ 16777216 ∧ (s.rng ≤ 65536 → (normS c s).rng = s.rng * 256) ∧ (65536 < s.rng → normS c s = s) := fun s a b d => by
    have := hb s.taken
    unfold normS
    split
    · rename_i hq
      refine ⟨by simp only; omega, by simp only; omega, by simp only; omega, fun _ => rfl, fun h => by omega⟩
    · exact ⟨a, b, d, fun h => by omega, fun _ => rfl⟩
  obtain ⟨a1, a2, a3, a4, a5⟩ := step s h2 h3 h1
  obtain ⟨b1, b2, b3, b4, b5⟩ := step (normS c s) a1 a2 a3
  refine ⟨?_, b3, b1, b2⟩
  by_cases q : s.rng ≤ 65536
  · have e := a4 q
    by_cases q2 : (normS c s).rng ≤ 65536
    · rw [b4 q2]; omega
    · rw [b5 (by omega)]; omega
  · rw [a5 (by omega)] at b5 ⊢
    rw [b5 (by omega)]; omega
theorem takeF_ok (c : RC) (s : RS) (hb : ∀ i, 0 ≤ c.byte i ∧ c.byte i ≤ 255) (hok : RsOk s) (f e t : Int) : RsOk (takeF c s f e t) := by
  unfold takeF
  split
  · rename_i h
    obtain ⟨ht, hf, hfe, het⟩ := h
    obtain ⟨q1, q2, q3, q4, -⟩ := cut_bd s hok f e t ht hf hfe het
    exact norm_ok c _ hb q1 q2 q3 q4
  · exact hok
end Go.Proofs.YtbcdnbbpkikppaaDoor
end

section
namespace Go
open Go.RowKit
variable {P : Program}
theorem region_one {id : Nat} {Q : Exit → Act → World → Prop} {a : Act} {w : World} {l : List Oper} (L : List Nat) (K n : Nat) (PD : Bool → World → Prop) (hm : P.follows .mixedOrders = true) (hB : invB l.toArray n = true)
    (h0 : PD false w) (hd : ∀ W : World, PD false W → PD false W.drew) (hk : ∀ b W W', Below W.heap.size W W' → PD b W → PD b W')
    (h : RI.wpInv P l.toArray [] (fun D W => Chg L w W ∧ PD (D K) W) (fun k W W' => if k = K then Chg L W W' ∧ PD true W' else Below W.heap.size W W') (l.take n) a (fun U w => wpList P l.toArray Q (l.drop n) (fillPuts (l.take n) U 0 a) w) 0 [] (l.take n)) : (Code.region id l.toArray true).wp P Q a w := by
  refine RI.wp_region_inv [] (fun D W => Chg L w W ∧ PD (D K) W) (fun k W W' => if k = K then Chg L W W' ∧ PD true W' else Below W.heap.size W W') n hm hB rfl ⟨(Chg.refl _ _).drew, hd _ h0⟩ ?_ ?_ h
  · rintro k D W W' hDk ⟨hC, hP⟩ hT
    by_cases e : k = K
    · rw [if_pos e] at hT
      refine ⟨hC.trans hT.1, ?_⟩
      show PD (if K = k then true else D K) W'
      rw [if_pos e.symm]
      exact hT.2
    · rw [if_neg e] at hT
      refine ⟨hC.below hT, ?_⟩
      show PD (if K = k then true else D K) W'
      rw [if_neg (fun h => e h.symm)]
      exact hk _ _ _ hT hP
  · intro k W W' hT
    by_cases e : k = K
    · rw [if_pos e] at hT; exact hT.1.size
    · rw [if_neg e] at hT; exact hT.size
end Go
end

section
namespace Go
open Go.RowKit
theorem or_nat (n : Nat) (X Y : Nat) (hx : X < 2 ^ n) (hy : Y < 2 ^ n) : (BitVec.ofInt n (X : Int) ||| BitVec.ofInt n (Y : Int)).toNat = X ||| Y := by
  rw [BitVec.toNat_or, BitVec.ofInt_natCast, BitVec.ofInt_natCast, BitVec.toNat_ofNat, BitVec.toNat_ofNat, Nat.mod_eq_of_lt hx, Nat.mod_eq_of_lt hy]
theorem or_u32 (i : Nat) (a z : Int) (ha : 0 ≤ a) (hz : 0 ≤ z) (hzi : z < 2 ^ i) (hb : a * 2 ^ i + z < 4294967296) : bits .or .u32 (a * 2 ^ i) z = a * 2 ^ i + z := by
  obtain ⟨A, rfl⟩ := Int.eq_ofNat_of_zero_le ha
  obtain ⟨Z, rfl⟩ := Int.eq_ofNat_of_zero_le hz
  have hzn : Z < 2 ^ i := by
    have h1 : (Z : Int) < ((2 ^ i : Nat) : Int) := by rw [Int.natCast_pow]; exact hzi
    exact Int.ofNat_lt.1 h1
  have hbn : A * 2 ^ i + Z < 4294967296 := by
    have h1 : ((A * 2 ^ i + Z : Nat) : Int) < ((4294967296 : Nat) : Int) := by rw [Int.natCast_add, Int.natCast_mul, Int.natCast_pow]; exact hb
    exact Int.ofNat_lt.1 h1
  have e : (A : Int) * 2 ^ i = ((A * 2 ^ i : Nat) : Int) := by rw [Int.natCast_mul, Int.natCast_pow]; rfl
  unfold bits
  simp only
  rw [e]
  have h32 : IntKind.u32.bits = 32 := rfl
  rw [h32, or_nat 32 _ _ (by omega) (by omega), Nat.mul_comm A, ← Nat.two_pow_add_eq_or_of_lt hzn, Nat.mul_comm]
  have hw : IntKind.u32.wrap ((A * 2 ^ i + Z : Nat) : Int) = (((A * 2 ^ i + Z : Nat) : Int)) % 4294967296 := by simp [IntKind.wrap, IntKind.bits, IntKind.signed]
  rw [hw]
  omega
theorem or_i64 (i : Nat) (a z : Int) (ha : 0 ≤ a) (hz : 0 ≤ z) (hzi : z < 2 ^ i) (hb : a * 2 ^ i + z < 9223372036854775808) : bits .or .i64 (a * 2 ^ i) z = a * 2 ^ i + z := by
  obtain ⟨A, rfl⟩ := Int.eq_ofNat_of_zero_le ha
  obtain ⟨Z, rfl⟩ := Int.eq_ofNat_of_zero_le hz
  have hzn : Z < 2 ^ i := by
    have h1 : (Z : Int) < ((2 ^ i : Nat) : Int) := by rw [Int.natCast_pow]; exact hzi
    exact Int.ofNat_lt.1 h1
  have hbn : A * 2 ^ i + Z < 9223372036854775808 := by
    have h1 : ((A * 2 ^ i + Z : Nat) : Int) < ((9223372036854775808 : Nat) : Int) := by rw [Int.natCast_add, Int.natCast_mul, Int.natCast_pow]; exact hb
    exact Int.ofNat_lt.1 h1
  have e : (A : Int) * 2 ^ i = ((A * 2 ^ i : Nat) : Int) := by rw [Int.natCast_mul, Int.natCast_pow]; rfl
  unfold bits
  simp only
  rw [e]
  have h32 : IntKind.i64.bits = 64 := rfl
  rw [h32, or_nat 64 _ _ (by omega) (by omega), Nat.mul_comm A, ← Nat.two_pow_add_eq_or_of_lt hzn, Nat.mul_comm]
  generalize hX : ((A * 2 ^ i + Z : Nat) : Int) = X
  have hX1 : X < 9223372036854775808 := by omega
  have hX0 : 0 ≤ X := by omega
  have hw : IntKind.i64.wrap X = X := by
    unfold IntKind.wrap
    have e1 : (X % (2 ^ IntKind.i64.bits : Int)) = X := by
      show X % 18446744073709551616 = X
      omega
    simp only [e1]
    rw [if_neg]
    intro h
    simp only [Bool.and_eq_true, decide_eq_true_eq] at h
    have h2 : X ≥ (9223372036854775808 : Int) := h.2
    omega
  rw [hw]
  omega
theorem or_byte (a z : Int) (ha : 0 ≤ a) (hz : 0 ≤ z) (hzi : z ≤ 255) (hb : a * 256 ≤ 4294967040) : bits .or .u32 (a * 256) z = a * 256 + z := or_u32 8 a z ha hz (by omega) (by omega)
end Go
end

section
namespace Go.Proofs.YtbcdnbbpkikppaaDoor
open Go.RowKit Go.BigFrame
set_option linter.unusedSimpArgs false
set_option linter.unusedVariables false
theorem norm_taken (c : RC) (s : RS) : s.taken ≤ (normS c s).taken ∧ (normS c s).taken ≤ s.taken + 1 := by
  unfold normS; split <;> simp
/-- It comes to E. -/
structure Reach (c : RC) (E s : RS) : Prop where
  eq : normS c (normS c s) = E
  r0 : 16 ≤ s.rng
  r1 : s.rng ≤ 16777216
  v0 : 0 ≤ s.val
  v1 : s.val < s.rng
theorem Reach.step {c : RC} {E s : RS} (h : Reach c E s) (hE : RsOk E) (hb : ∀ i, 0 ≤ c.byte i ∧ c.byte i ≤ 255) (hr : s.rng ≤ 65536) : Reach c E (normS c s) := by
  have e : normS c s = { taken := s.taken + 1, raws := s.raws, rng := s.rng * 256, val := s.val * 256 + c.byte s.taken } := by unfold normS; rw [if_pos hr]
  have hbb := hb s.taken
  have h0 := h.r0
  have h2 := h.v0
  have h3 := h.v1
  refine ⟨?_, by rw [e]; simp only; omega, by rw [e]; simp only; omega, by rw [e]; simp only; omega, by rw [e]; simp only; omega⟩
  rw [h.eq]
  have := hE.r0
  unfold normS
  rw [if_neg (by omega)]
theorem Reach.done {c : RC} {E s : RS} (h : Reach c E s) (hr : 65536 < s.rng) : s = E := by
  have e : normS c s = s := by unfold normS; rw [if_neg (by omega)]
  have := h.eq
  rw [e, e] at this
  exact this
theorem Reach.taken {c : RC} {E s : RS} (h : Reach c E s) : s.taken ≤ E.taken := by
  rw [← h.eq]
  exact Nat.le_trans (norm_taken c s).1 (norm_taken c _).1
def rngAt (rb : Nat) (w : World) : Nat := match w.cell? ⟨rb, 3, none⟩ with
  | some (.int _ r) => (65537 - r).toNat
  | _ => 0
theorem rngAt_of {c : RC} {s : RS} {w : World} (h : RdAt c s w) : rngAt c.rb w = (65537 - s.rng).toNat := by
  unfold rngAt; rw [h.c3]
set_option maxHeartbeats 4000000 in
set_option maxRecDepth 100000 in
theorem rdTake (c : RC) (s : RS) (hok : RsOk s) (f e t : Int) (w : World) (h : RdAt c s w) (ht : s.taken ≤ 900000) (hn : c.n ≤ 1000000) :
    Calls Tryd.prog 140 #[.pointer (some ⟨c.rb, 0, none⟩), .int .i64 f, .int .i64 e, .int .i64 t] w fun e' w' => e' = .returned (.tuple #[]) ∧ RdAt c (takeF c s f e t) w' ∧ Chg [c.rb] w w' := by
  have hri := Lib.hid (fun w => rdRight t w)
  have hb := fun i => RC.byte_bd h i
  have H := Lib.hid h
  by_cases hin : (1 ≤ t ∧ t ≤ 4096) ∧ 0 ≤ f ∧ f < e ∧ e ≤ t
  · have HT := Lib.hid (show takeF c s f e t = normS c (normS c (cutS s f e t)) by unfold takeF; rw [if_pos hin])
    obtain ⟨ht1, hf0, hfe, het⟩ := hin
    have htk := (norm_taken c (normS c (cutS s f e t))).2
    have htk2 := (norm_taken c (cutS s f e t)).2
    have HOKE := Lib.hid (takeF_ok c s hb hok f e t)
    obtain ⟨q1, q2, q3, q4, q5, q6, q7, q8⟩ := cut_bd s hok f e t ht1 hf0 hfe het
    rw [decide_eq_true ht1] at hri
    obtain ⟨t1, t2⟩ := ht1
    obtain ⟨p1, p2, -, -, -⟩ := part_bd s.rng t hok.r0 hok.r1 t1 t2
    have HB := Lib.hid hb
    have hRE := Lib.hid (show Reach c (takeF c s f e t) (cutS s f e t) from ⟨HT.out.symm, q1, q2, q3, q4⟩)
    have hEt : (takeF c s f e t).taken ≤ 900002 := by rw [HT.out]; have : (cutS s f e t).taken = s.taken := rfl; omega
    have HCUT := Lib.hid (show cutS s f e t = { taken := s.taken, raws := s.raws, rng := (if e = t then s.rng - f * (s.rng / t) else (e - f) * (s.rng / t)), val := min (s.val - min (f * (s.rng / t)) s.val) ((if e = t then s.rng - f * (s.rng / t) else (e - f) * (s.rng / t)) - 1) } from rfl)
    obtain ⟨r0, r1, v0, v1⟩ := hok
    have hq1 : s.rng.tdiv t = s.rng / t := Int.tdiv_eq_ediv_of_nonneg (by omega)
    have hcr : (cutS s f e t).rng = (if e = t then s.rng - f * (s.rng / t) else (e - f) * (s.rng / t)) := rfl
    rw [hcr] at q1 q2
    have HE := Lib.hid (show takeF c s f e t = takeF c s f e t from rfl)
    obtain ⟨E, hE⟩ : ∃ E, takeF c s f e t = E := ⟨_, rfl⟩
    rw [hE] at hRE HOKE hEt ⊢
    clear h hb ht HT HE hE htk htk2 q3 q4 hcr
    go_enter Tryd.func140, Tryd.ntmps140
    go_wp2_with fail
    refine (hri.out _).mono ?_
    rintro e1 w1 ⟨rfl, hb1⟩
    go_upto_region 1 with fail
    refine cut_world (fun W => RdAt c s W ∧ Chg [c.rb] w W) ⟨H.out.keep0 hb1, Chg.of_below hb1⟩ ?_
    clear hb1 H
    rintro V ⟨hR, hC⟩
    have HR := Lib.hid hR
    have HC := Lib.hid hC
    have c3 := hR.c3
    have f3 := hR.fz 3
    have hl := hR.lt
    clear hR hC
    have ht0 : ¬ t = 0 := by omega
    obtain ⟨r, hr⟩ : ∃ r, s.rng = r := ⟨_, rfl⟩
    obtain ⟨v, hv⟩ : ∃ v, s.val = v := ⟨_, rfl⟩
    rw [hr] at c3 r0 r1 v1 hq1 p1 p2 q1 q2 q5 q6 q7 q8 HCUT
    rw [hv] at v0 v1 HCUT
    have HRR := Lib.hid hr
    have HVV := Lib.hid hv
    clear hr hv
    generalize r / t = p at *
    obtain ⟨fp, hfp⟩ : ∃ x, f * p = x := ⟨_, rfl⟩
    obtain ⟨ep, hep⟩ : ∃ x, (e - f) * p = x := ⟨_, rfl⟩
    rw [hfp] at q5 q6 q1 q2 HCUT
    rw [hep] at q7 q8 q1 q2 HCUT
    by_cases het2 : e = t
    · subst het2
      rw [if_pos rfl] at q1 q2 HCUT
      go_upto_region 6 with fail
      refine cut_world (fun W => RdAt c { taken := s.taken, raws := s.raws, rng := r - fp, val := s.val } W ∧ Chg [c.rb] w W) ⟨HR.out.set3 (r - fp), HC.out.setCell _ (by simp)⟩ ?_
      have m2 : v ≤ 16777216 := by omega
      clear HR HC c3 f3 hl hq1 p1 p2 r0 r1 v1 ht0 hfp hep
      rintro V1 ⟨hR, hC⟩
      have HR := Lib.hid hR
      have HC := Lib.hid hC
      have c4 := hR.c4
      have hl := hR.lt
      simp only [HVV.out] at c4
      clear hR hC
      obtain ⟨R, hR1⟩ : ∃ x, r - fp = x := ⟨_, rfl⟩
      rw [hR1] at q1 q2 HCUT HR
      clear hR1
      have m0 : 0 ≤ v - min fp v := by omega
      have m1 : v - min fp v ≤ v := by omega
      refine wp_region_inv [] (fun W => Below V1.heap.size V1 W) (fun W W' => Below W.heap.size W W') 13 (by kernel_rfl) (by kernel_rfl) (by kernel_rfl) ((Below.refl _ _).drew) (fun W W' h h' => h.trans (h'.mono h.size)) (fun _ _ h => h.size) ?_
      simp only [List.take_succ_cons, List.take_zero, List.drop_succ_cons, List.drop_zero]
      refine wpInv_det (by kernel_rfl) (by kernel_rfl) ?_
      apply Exists.intro
      refine ⟨?_, ?_, ?_⟩
      · intro U W hC hH
        have hc1 := (bcell hC).1
        have hf1 := (bcell hC).2
        simp only [HypsU, predsOf, Region.binds, List.filterMap_cons, List.filterMap_nil, if_true, List.nil_append, List.cons_append, List.getD_cons_zero, List.getD_cons_succ] at hH
        simp only [fillPuts, Act.put, List.setIfInBounds_toArray, List.set_cons_zero, List.set_cons_succ, Nat.reduceAdd]
        go_wp2_with fail
        refine ⟨rfl, rfl, by (repeat' (first | with_reducible (first | exact Below.refl _ _ | assumption | refine Below.alloc ?_ ?_ _ | refine below_grew ?_ ?_ _ | refine Below.setCell ?_ ?_ _ | refine Below.drew ?_ | refine below_drewN ?_ _) | omega | (simp; done) | (simp; omega))), ?_⟩
        conv => lhs; whnf
        try rfl
      · exact fun _ => rfl
      simp only [List.nil_append, List.cons_append, Nat.reduceAdd]
      refine wpInv_det (by kernel_rfl) (by kernel_rfl) ?_
      apply Exists.intro
      refine ⟨?_, ?_, ?_⟩
      · intro U W hC hH
        have hc1 := (bcell hC).1
        have hf1 := (bcell hC).2
        simp only [HypsU, predsOf, Region.binds, List.filterMap_cons, List.filterMap_nil, if_true, List.nil_append, List.cons_append, List.getD_cons_zero, List.getD_cons_succ] at hH
        simp only [fillPuts, Act.put, List.setIfInBounds_toArray, List.set_cons_zero, List.set_cons_succ, Nat.reduceAdd]
        go_wp2_with fail
        refine ⟨rfl, rfl, by (repeat' (first | with_reducible (first | exact Below.refl _ _ | assumption | refine Below.alloc ?_ ?_ _ | refine below_grew ?_ ?_ _ | refine Below.setCell ?_ ?_ _ | refine Below.drew ?_ | refine below_drewN ?_ _) | omega | (simp; done) | (simp; omega))), ?_⟩
        conv => lhs; whnf
        try rfl
      · exact fun _ => rfl
      simp only [List.nil_append, List.cons_append, Nat.reduceAdd]
      refine wpInv_det (by kernel_rfl) (by kernel_rfl) ?_
      apply Exists.intro
      refine ⟨?_, ?_, ?_⟩
      · intro U W hC hH
        have hc1 := (bcell hC).1
        have hf1 := (bcell hC).2
        simp only [HypsU, predsOf, Region.binds, List.filterMap_cons, List.filterMap_nil, if_true, List.nil_append, List.cons_append, List.getD_cons_zero, List.getD_cons_succ] at hH
        simp only [fillPuts, Act.put, List.setIfInBounds_toArray, List.set_cons_zero, List.set_cons_succ, Nat.reduceAdd]
        go_wp2_with fail
        refine ⟨rfl, rfl, by (repeat' (first | with_reducible (first | exact Below.refl _ _ | assumption | refine Below.alloc ?_ ?_ _ | refine below_grew ?_ ?_ _ | refine Below.setCell ?_ ?_ _ | refine Below.drew ?_ | refine below_drewN ?_ _) | omega | (simp; done) | (simp; omega))), ?_⟩
        conv => lhs; whnf
        try rfl
      · exact fun _ => rfl
      simp only [List.nil_append, List.cons_append, Nat.reduceAdd]
      refine wpInv_det (by kernel_rfl) (by kernel_rfl) ?_
      apply Exists.intro
      refine ⟨?_, ?_, ?_⟩
      · intro U W hC hH
        have hc1 := (bcell hC).1
        have hf1 := (bcell hC).2
        simp only [HypsU, predsOf, Region.binds, List.filterMap_cons, List.filterMap_nil, if_true, List.nil_append, List.cons_append, List.getD_cons_zero, List.getD_cons_succ] at hH
        simp only [fillPuts, Act.put, List.setIfInBounds_toArray, List.set_cons_zero, List.set_cons_succ, Nat.reduceAdd]
        go_wp2_with fail
        refine ⟨rfl, rfl, by (repeat' (first | with_reducible (first | exact Below.refl _ _ | assumption | refine Below.alloc ?_ ?_ _ | refine below_grew ?_ ?_ _ | refine Below.setCell ?_ ?_ _ | refine Below.drew ?_ | refine below_drewN ?_ _) | omega | (simp; done) | (simp; omega))), ?_⟩
        conv => lhs; whnf
        try rfl
      · exact fun _ => rfl
      simp only [List.nil_append, List.cons_append, Nat.reduceAdd]
      refine wpInv_det (by kernel_rfl) (by kernel_rfl) ?_
      apply Exists.intro
      refine ⟨?_, ?_, ?_⟩
      · intro U W hC hH
        have hc1 := (bcell hC).1
        have hf1 := (bcell hC).2
        simp only [HypsU, predsOf, Region.binds, List.filterMap_cons, List.filterMap_nil, if_true, List.nil_append, List.cons_append, List.getD_cons_zero, List.getD_cons_succ] at hH
        simp only [fillPuts, Act.put, List.setIfInBounds_toArray, List.set_cons_zero, List.set_cons_succ, Nat.reduceAdd]
        go_wp2_with fail
        refine ⟨rfl, rfl, by (repeat' (first | with_reducible (first | exact Below.refl _ _ | assumption | refine Below.alloc ?_ ?_ _ | refine below_grew ?_ ?_ _ | refine Below.setCell ?_ ?_ _ | refine Below.drew ?_ | refine below_drewN ?_ _) | omega | (simp; done) | (simp; omega))), ?_⟩
        conv => lhs; whnf
        try rfl
      · exact fun _ => rfl
      simp only [List.nil_append, List.cons_append, Nat.reduceAdd]
      refine wpInv_det (by kernel_rfl) (by kernel_rfl) ?_
      apply Exists.intro
      refine ⟨?_, ?_, ?_⟩
      · intro U W hC hH
        have hc1 := (bcell hC).1
        have hf1 := (bcell hC).2
        simp only [HypsU, predsOf, Region.binds, List.filterMap_cons, List.filterMap_nil, if_true, List.nil_append, List.cons_append, List.getD_cons_zero, List.getD_cons_succ] at hH
        simp only [fillPuts, Act.put, List.setIfInBounds_toArray, List.set_cons_zero, List.set_cons_succ, Nat.reduceAdd]
        go_wp2_with fail
        refine ⟨rfl, rfl, by (repeat' (first | with_reducible (first | exact Below.refl _ _ | assumption | refine Below.alloc ?_ ?_ _ | refine below_grew ?_ ?_ _ | refine Below.setCell ?_ ?_ _ | refine Below.drew ?_ | refine below_drewN ?_ _) | omega | (simp; done) | (simp; omega))), ?_⟩
        conv => lhs; whnf
        try rfl
      · exact fun _ => rfl
      simp only [List.nil_append, List.cons_append, Nat.reduceAdd]
      refine wpInv_det (by kernel_rfl) (by kernel_rfl) ?_
      apply Exists.intro
      refine ⟨?_, ?_, ?_⟩
      · intro U W hC hH
        have hc1 := (bcell hC).1
        have hf1 := (bcell hC).2
        simp only [HypsU, predsOf, Region.binds, List.filterMap_cons, List.filterMap_nil, if_true, List.nil_append, List.cons_append, List.getD_cons_zero, List.getD_cons_succ] at hH
        simp only [fillPuts, Act.put, List.setIfInBounds_toArray, List.set_cons_zero, List.set_cons_succ, Nat.reduceAdd]
        go_wp2_with fail
        refine ⟨rfl, rfl, by (repeat' (first | with_reducible (first | exact Below.refl _ _ | assumption | refine Below.alloc ?_ ?_ _ | refine below_grew ?_ ?_ _ | refine Below.setCell ?_ ?_ _ | refine Below.drew ?_ | refine below_drewN ?_ _) | omega | (simp; done) | (simp; omega))), ?_⟩
        conv => lhs; whnf
        try rfl
      · exact fun _ => rfl
      simp only [List.nil_append, List.cons_append, Nat.reduceAdd]
      refine wpInv_det (by kernel_rfl) (by kernel_rfl) ?_
      apply Exists.intro
      refine ⟨?_, ?_, ?_⟩
      · intro U W hC hH
        have hc1 := (bcell hC).1
        have hf1 := (bcell hC).2
        simp only [HypsU, predsOf, Region.binds, List.filterMap_cons, List.filterMap_nil, if_true, List.nil_append, List.cons_append, List.getD_cons_zero, List.getD_cons_succ] at hH
        simp only [fillPuts, Act.put, List.setIfInBounds_toArray, List.set_cons_zero, List.set_cons_succ, Nat.reduceAdd]
        go_wp2_with fail
        refine ⟨rfl, rfl, by (repeat' (first | with_reducible (first | exact Below.refl _ _ | assumption | refine Below.alloc ?_ ?_ _ | refine below_grew ?_ ?_ _ | refine Below.setCell ?_ ?_ _ | refine Below.drew ?_ | refine below_drewN ?_ _) | omega | (simp; done) | (simp; omega))), ?_⟩
        conv => lhs; whnf
        try rfl
      · exact fun _ => rfl
      simp only [List.nil_append, List.cons_append, Nat.reduceAdd]
      refine wpInv_det (by kernel_rfl) (by kernel_rfl) ?_
      apply Exists.intro
      refine ⟨?_, ?_, ?_⟩
      · intro U W hC hH
        have hc1 := (bcell hC).1
        have hf1 := (bcell hC).2
        simp only [HypsU, predsOf, Region.binds, List.filterMap_cons, List.filterMap_nil, if_true, List.nil_append, List.cons_append, List.getD_cons_zero, List.getD_cons_succ] at hH
        simp only [fillPuts, Act.put, List.setIfInBounds_toArray, List.set_cons_zero, List.set_cons_succ, Nat.reduceAdd]
        go_wp2_with fail
        refine ⟨rfl, rfl, by (repeat' (first | with_reducible (first | exact Below.refl _ _ | assumption | refine Below.alloc ?_ ?_ _ | refine below_grew ?_ ?_ _ | refine Below.setCell ?_ ?_ _ | refine Below.drew ?_ | refine below_drewN ?_ _) | omega | (simp; done) | (simp; omega))), ?_⟩
        conv => lhs; whnf
        try rfl
      · exact fun _ => rfl
      simp only [List.nil_append, List.cons_append, Nat.reduceAdd]
      refine wpInv_det (by kernel_rfl) (by kernel_rfl) ?_
      apply Exists.intro
      refine ⟨?_, ?_, ?_⟩
      · intro U W hC hH
        have hc1 := (bcell hC).1
        have hf1 := (bcell hC).2
        simp only [HypsU, predsOf, Region.binds, List.filterMap_cons, List.filterMap_nil, if_true, List.nil_append, List.cons_append, List.getD_cons_zero, List.getD_cons_succ] at hH
        simp only [fillPuts, Act.put, List.setIfInBounds_toArray, List.set_cons_zero, List.set_cons_succ, Nat.reduceAdd]
        go_wp2_with fail
        refine ⟨rfl, rfl, by (repeat' (first | with_reducible (first | exact Below.refl _ _ | assumption | refine Below.alloc ?_ ?_ _ | refine below_grew ?_ ?_ _ | refine Below.setCell ?_ ?_ _ | refine Below.drew ?_ | refine below_drewN ?_ _) | omega | (simp; done) | (simp; omega))), ?_⟩
        conv => lhs; whnf
        try rfl
      · exact fun _ => rfl
      simp only [List.nil_append, List.cons_append, Nat.reduceAdd]
      refine wpInv_det (by kernel_rfl) (by kernel_rfl) ?_
      apply Exists.intro
      refine ⟨?_, ?_, ?_⟩
      · intro U W hC hH
        have hc1 := (bcell hC).1
        have hf1 := (bcell hC).2
        simp only [HypsU, predsOf, Region.binds, List.filterMap_cons, List.filterMap_nil, if_true, List.nil_append, List.cons_append, List.getD_cons_zero, List.getD_cons_succ] at hH
        simp only [fillPuts, Act.put, List.setIfInBounds_toArray, List.set_cons_zero, List.set_cons_succ, Nat.reduceAdd]
        go_wp2_with fail
        refine ⟨rfl, rfl, by (repeat' (first | with_reducible (first | exact Below.refl _ _ | assumption | refine Below.alloc ?_ ?_ _ | refine below_grew ?_ ?_ _ | refine Below.setCell ?_ ?_ _ | refine Below.drew ?_ | refine below_drewN ?_ _) | omega | (simp; done) | (simp; omega))), ?_⟩
        conv => lhs; whnf
        try rfl
      · exact fun _ => rfl
      simp only [List.nil_append, List.cons_append, Nat.reduceAdd]
      refine wpInv_det (by kernel_rfl) (by kernel_rfl) ?_
      apply Exists.intro
      refine ⟨?_, ?_, ?_⟩
      · intro U W hC hH
        have hc1 := (bcell hC).1
        have hf1 := (bcell hC).2
        simp only [HypsU, predsOf, Region.binds, List.filterMap_cons, List.filterMap_nil, if_true, List.nil_append, List.cons_append, List.getD_cons_zero, List.getD_cons_succ] at hH
        simp only [fillPuts, Act.put, List.setIfInBounds_toArray, List.set_cons_zero, List.set_cons_succ, Nat.reduceAdd]
        go_wp2_with fail
        refine ⟨rfl, rfl, by (repeat' (first | with_reducible (first | exact Below.refl _ _ | assumption | refine Below.alloc ?_ ?_ _ | refine below_grew ?_ ?_ _ | refine Below.setCell ?_ ?_ _ | refine Below.drew ?_ | refine below_drewN ?_ _) | omega | (simp; done) | (simp; omega))), ?_⟩
        conv => lhs; whnf
        try rfl
      · exact fun _ => rfl
      simp only [List.nil_append, List.cons_append, Nat.reduceAdd]
      refine wpInv_det (by kernel_rfl) (by kernel_rfl) ?_
      apply Exists.intro
      refine ⟨?_, ?_, ?_⟩
      · intro U W hC hH
        have hc1 := (bcell hC).1
        have hf1 := (bcell hC).2
        simp only [HypsU, predsOf, Region.binds, List.filterMap_cons, List.filterMap_nil, if_true, List.nil_append, List.cons_append, List.getD_cons_zero, List.getD_cons_succ] at hH
        simp only [fillPuts, Act.put, List.setIfInBounds_toArray, List.set_cons_zero, List.set_cons_succ, Nat.reduceAdd]
        go_wp2_with fail
        refine ⟨rfl, rfl, by (repeat' (first | with_reducible (first | exact Below.refl _ _ | assumption | refine Below.alloc ?_ ?_ _ | refine below_grew ?_ ?_ _ | refine Below.setCell ?_ ?_ _ | refine Below.drew ?_ | refine below_drewN ?_ _) | omega | (simp; done) | (simp; omega))), ?_⟩
        conv => lhs; whnf
        try rfl
      · exact fun _ => rfl
      simp only [List.nil_append, List.cons_append, Nat.reduceAdd]
      simp only [List.nil_append, List.cons_append, Nat.reduceAdd, fillPuts, Act.put, List.setIfInBounds_toArray, List.set_cons_zero, List.set_cons_succ]
      rintro U W hC ⟨h0, h1, h2, h3, h4, h5, h6, h7, h8, h9, h10, h11, h12, -⟩ -
      simp only [h0, h1, h2, h3, h4, h5, h6, h7, h8, h9, h10, h11, h12]
      have hRW := HR.out.keep0 hC
      have HRW := Lib.hid hRW
      have HCW := Lib.hid (HC.out.below hC)
      have d4 := hRW.c4
      have g4 := hRW.fz 4
      have dl := hRW.lt
      clear h0 h1 h2 h3 h4 h5 h6 h7 h8 h9 h10 h11 h12 hC hRW HR HC c4 hl
      go_upto_region 7 with fail
      refine cut_world (fun W => RdAt c { taken := s.taken, raws := s.raws, rng := R, val := v - min fp v } W ∧ Chg [c.rb] w W) ⟨HRW.out.set4 (v - min fp v), HCW.out.setCell _ (by simp)⟩ ?_
      clear HRW HCW d4 g4 dl
      rintro V2 ⟨hR, hC⟩
      have HR := Lib.hid hR
      have HC := Lib.hid hC
      have c3 := hR.c3
      have c4 := hR.c4
      have hl := hR.lt
      simp only at c3 c4
      clear hR hC
      obtain ⟨v2, hv2⟩ : ∃ x, v - min fp v = x := ⟨_, rfl⟩
      rw [hv2] at m0 m1 HCUT HR c4
      clear hv2
      have k0 : 0 ≤ R - 1 := by omega
      have k1 : R - 1 ≤ 16777216 := by omega
      have k2 : v2 ≤ 16777216 := by omega
      have k3 : 0 ≤ min v2 (R - 1) := by omega
      have k4 : min v2 (R - 1) ≤ 16777216 := by omega
      refine wp_region_inv [] (fun W => Below V2.heap.size V2 W) (fun W W' => Below W.heap.size W W') 13 (by kernel_rfl) (by kernel_rfl) (by kernel_rfl) ((Below.refl _ _).drew) (fun W W' h h' => h.trans (h'.mono h.size)) (fun _ _ h => h.size) ?_
      simp only [List.take_succ_cons, List.take_zero, List.drop_succ_cons, List.drop_zero]
      refine wpInv_det (by kernel_rfl) (by kernel_rfl) ?_
      apply Exists.intro
      refine ⟨?_, ?_, ?_⟩
      · intro U W hC hH
        have hc1 := (bcell hC).1
        have hf1 := (bcell hC).2
        simp only [HypsU, predsOf, Region.binds, List.filterMap_cons, List.filterMap_nil, if_true, List.nil_append, List.cons_append, List.getD_cons_zero, List.getD_cons_succ] at hH
        simp only [fillPuts, Act.put, List.setIfInBounds_toArray, List.set_cons_zero, List.set_cons_succ, Nat.reduceAdd]
        go_wp2_with fail
        refine ⟨rfl, rfl, by (repeat' (first | with_reducible (first | exact Below.refl _ _ | assumption | refine Below.alloc ?_ ?_ _ | refine below_grew ?_ ?_ _ | refine Below.setCell ?_ ?_ _ | refine Below.drew ?_ | refine below_drewN ?_ _) | omega | (simp; done) | (simp; omega))), ?_⟩
        conv => lhs; whnf
        try rfl
      · exact fun _ => rfl
      simp only [List.nil_append, List.cons_append, Nat.reduceAdd]
      refine wpInv_det (by kernel_rfl) (by kernel_rfl) ?_
      apply Exists.intro
      refine ⟨?_, ?_, ?_⟩
      · intro U W hC hH
        have hc1 := (bcell hC).1
        have hf1 := (bcell hC).2
        simp only [HypsU, predsOf, Region.binds, List.filterMap_cons, List.filterMap_nil, if_true, List.nil_append, List.cons_append, List.getD_cons_zero, List.getD_cons_succ] at hH
        simp only [fillPuts, Act.put, List.setIfInBounds_toArray, List.set_cons_zero, List.set_cons_succ, Nat.reduceAdd]
        go_wp2_with fail
        refine ⟨rfl, rfl, by (repeat' (first | with_reducible (first | exact Below.refl _ _ | assumption | refine Below.alloc ?_ ?_ _ | refine below_grew ?_ ?_ _ | refine Below.setCell ?_ ?_ _ | refine Below.drew ?_ | refine below_drewN ?_ _) | omega | (simp; done) | (simp; omega))), ?_⟩
        conv => lhs; whnf
        try rfl
      · exact fun _ => rfl
      simp only [List.nil_append, List.cons_append, Nat.reduceAdd]
      refine wpInv_det (by kernel_rfl) (by kernel_rfl) ?_
      apply Exists.intro
      refine ⟨?_, ?_, ?_⟩
      · intro U W hC hH
        have hc1 := (bcell hC).1
        have hf1 := (bcell hC).2
        simp only [HypsU, predsOf, Region.binds, List.filterMap_cons, List.filterMap_nil, if_true, List.nil_append, List.cons_append, List.getD_cons_zero, List.getD_cons_succ] at hH
        simp only [fillPuts, Act.put, List.setIfInBounds_toArray, List.set_cons_zero, List.set_cons_succ, Nat.reduceAdd]
        go_wp2_with fail
        refine ⟨rfl, rfl, by (repeat' (first | with_reducible (first | exact Below.refl _ _ | assumption | refine Below.alloc ?_ ?_ _ | refine below_grew ?_ ?_ _ | refine Below.setCell ?_ ?_ _ | refine Below.drew ?_ | refine below_drewN ?_ _) | omega | (simp; done) | (simp; omega))), ?_⟩
        conv => lhs; whnf
        try rfl
      · exact fun _ => rfl
      simp only [List.nil_append, List.cons_append, Nat.reduceAdd]
      refine wpInv_det (by kernel_rfl) (by kernel_rfl) ?_
      apply Exists.intro
      refine ⟨?_, ?_, ?_⟩
      · intro U W hC hH
        have hc1 := (bcell hC).1
        have hf1 := (bcell hC).2
        simp only [HypsU, predsOf, Region.binds, List.filterMap_cons, List.filterMap_nil, if_true, List.nil_append, List.cons_append, List.getD_cons_zero, List.getD_cons_succ] at hH
        simp only [fillPuts, Act.put, List.setIfInBounds_toArray, List.set_cons_zero, List.set_cons_succ, Nat.reduceAdd]
        go_wp2_with fail
        refine ⟨rfl, rfl, by (repeat' (first | with_reducible (first | exact Below.refl _ _ | assumption | refine Below.alloc ?_ ?_ _ | refine below_grew ?_ ?_ _ | refine Below.setCell ?_ ?_ _ | refine Below.drew ?_ | refine below_drewN ?_ _) | omega | (simp; done) | (simp; omega))), ?_⟩
        conv => lhs; whnf
        try rfl
      · exact fun _ => rfl
      simp only [List.nil_append, List.cons_append, Nat.reduceAdd]
      refine wpInv_det (by kernel_rfl) (by kernel_rfl) ?_
      apply Exists.intro
      refine ⟨?_, ?_, ?_⟩
      · intro U W hC hH
        have hc1 := (bcell hC).1
        have hf1 := (bcell hC).2
        simp only [HypsU, predsOf, Region.binds, List.filterMap_cons, List.filterMap_nil, if_true, List.nil_append, List.cons_append, List.getD_cons_zero, List.getD_cons_succ] at hH
        simp only [fillPuts, Act.put, List.setIfInBounds_toArray, List.set_cons_zero, List.set_cons_succ, Nat.reduceAdd]
        go_wp2_with fail
        refine ⟨rfl, rfl, by (repeat' (first | with_reducible (first | exact Below.refl _ _ | assumption | refine Below.alloc ?_ ?_ _ | refine below_grew ?_ ?_ _ | refine Below.setCell ?_ ?_ _ | refine Below.drew ?_ | refine below_drewN ?_ _) | omega | (simp; done) | (simp; omega))), ?_⟩
        conv => lhs; whnf
        try rfl
      · exact fun _ => rfl
      simp only [List.nil_append, List.cons_append, Nat.reduceAdd]
      refine wpInv_det (by kernel_rfl) (by kernel_rfl) ?_
      apply Exists.intro
      refine ⟨?_, ?_, ?_⟩
      · intro U W hC hH
        have hc1 := (bcell hC).1
        have hf1 := (bcell hC).2
        simp only [HypsU, predsOf, Region.binds, List.filterMap_cons, List.filterMap_nil, if_true, List.nil_append, List.cons_append, List.getD_cons_zero, List.getD_cons_succ] at hH
        simp only [fillPuts, Act.put, List.setIfInBounds_toArray, List.set_cons_zero, List.set_cons_succ, Nat.reduceAdd]
        go_wp2_with fail
        refine ⟨rfl, rfl, by (repeat' (first | with_reducible (first | exact Below.refl _ _ | assumption | refine Below.alloc ?_ ?_ _ | refine below_grew ?_ ?_ _ | refine Below.setCell ?_ ?_ _ | refine Below.drew ?_ | refine below_drewN ?_ _) | omega | (simp; done) | (simp; omega))), ?_⟩
        conv => lhs; whnf
        try rfl
      · exact fun _ => rfl
      simp only [List.nil_append, List.cons_append, Nat.reduceAdd]
      refine wpInv_det (by kernel_rfl) (by kernel_rfl) ?_
      apply Exists.intro
      refine ⟨?_, ?_, ?_⟩
      · intro U W hC hH
        have hc1 := (bcell hC).1
        have hf1 := (bcell hC).2
        simp only [HypsU, predsOf, Region.binds, List.filterMap_cons, List.filterMap_nil, if_true, List.nil_append, List.cons_append, List.getD_cons_zero, List.getD_cons_succ] at hH
        simp only [fillPuts, Act.put, List.setIfInBounds_toArray, List.set_cons_zero, List.set_cons_succ, Nat.reduceAdd]
        go_wp2_with fail
        refine ⟨rfl, rfl, by (repeat' (first | with_reducible (first | exact Below.refl _ _ | assumption | refine Below.alloc ?_ ?_ _ | refine below_grew ?_ ?_ _ | refine Below.setCell ?_ ?_ _ | refine Below.drew ?_ | refine below_drewN ?_ _) | omega | (simp; done) | (simp; omega))), ?_⟩
        conv => lhs; whnf
        try rfl
      · exact fun _ => rfl
      simp only [List.nil_append, List.cons_append, Nat.reduceAdd]
      refine wpInv_det (by kernel_rfl) (by kernel_rfl) ?_
      apply Exists.intro
      refine ⟨?_, ?_, ?_⟩
      · intro U W hC hH
        have hc1 := (bcell hC).1
        have hf1 := (bcell hC).2
        simp only [HypsU, predsOf, Region.binds, List.filterMap_cons, List.filterMap_nil, if_true, List.nil_append, List.cons_append, List.getD_cons_zero, List.getD_cons_succ] at hH
        simp only [fillPuts, Act.put, List.setIfInBounds_toArray, List.set_cons_zero, List.set_cons_succ, Nat.reduceAdd]
        go_wp2_with fail
        refine ⟨rfl, rfl, by (repeat' (first | with_reducible (first | exact Below.refl _ _ | assumption | refine Below.alloc ?_ ?_ _ | refine below_grew ?_ ?_ _ | refine Below.setCell ?_ ?_ _ | refine Below.drew ?_ | refine below_drewN ?_ _) | omega | (simp; done) | (simp; omega))), ?_⟩
        conv => lhs; whnf
        try rfl
      · exact fun _ => rfl
      simp only [List.nil_append, List.cons_append, Nat.reduceAdd]
      refine wpInv_det (by kernel_rfl) (by kernel_rfl) ?_
      apply Exists.intro
      refine ⟨?_, ?_, ?_⟩
      · intro U W hC hH
        have hc1 := (bcell hC).1
        have hf1 := (bcell hC).2
        simp only [HypsU, predsOf, Region.binds, List.filterMap_cons, List.filterMap_nil, if_true, List.nil_append, List.cons_append, List.getD_cons_zero, List.getD_cons_succ] at hH
        simp only [fillPuts, Act.put, List.setIfInBounds_toArray, List.set_cons_zero, List.set_cons_succ, Nat.reduceAdd]
        go_wp2_with fail
        refine ⟨rfl, rfl, by (repeat' (first | with_reducible (first | exact Below.refl _ _ | assumption | refine Below.alloc ?_ ?_ _ | refine below_grew ?_ ?_ _ | refine Below.setCell ?_ ?_ _ | refine Below.drew ?_ | refine below_drewN ?_ _) | omega | (simp; done) | (simp; omega))), ?_⟩
        conv => lhs; whnf
        try rfl
      · exact fun _ => rfl
      simp only [List.nil_append, List.cons_append, Nat.reduceAdd]
      refine wpInv_det (by kernel_rfl) (by kernel_rfl) ?_
      apply Exists.intro
      refine ⟨?_, ?_, ?_⟩
      · intro U W hC hH
        have hc1 := (bcell hC).1
        have hf1 := (bcell hC).2
        simp only [HypsU, predsOf, Region.binds, List.filterMap_cons, List.filterMap_nil, if_true, List.nil_append, List.cons_append, List.getD_cons_zero, List.getD_cons_succ] at hH
        simp only [fillPuts, Act.put, List.setIfInBounds_toArray, List.set_cons_zero, List.set_cons_succ, Nat.reduceAdd]
        go_wp2_with fail
        refine ⟨rfl, rfl, by (repeat' (first | with_reducible (first | exact Below.refl _ _ | assumption | refine Below.alloc ?_ ?_ _ | refine below_grew ?_ ?_ _ | refine Below.setCell ?_ ?_ _ | refine Below.drew ?_ | refine below_drewN ?_ _) | omega | (simp; done) | (simp; omega))), ?_⟩
        conv => lhs; whnf
        try rfl
      · exact fun _ => rfl
      simp only [List.nil_append, List.cons_append, Nat.reduceAdd]
      refine wpInv_det (by kernel_rfl) (by kernel_rfl) ?_
      apply Exists.intro
      refine ⟨?_, ?_, ?_⟩
      · intro U W hC hH
        have hc1 := (bcell hC).1
        have hf1 := (bcell hC).2
        simp only [HypsU, predsOf, Region.binds, List.filterMap_cons, List.filterMap_nil, if_true, List.nil_append, List.cons_append, List.getD_cons_zero, List.getD_cons_succ] at hH
        simp only [fillPuts, Act.put, List.setIfInBounds_toArray, List.set_cons_zero, List.set_cons_succ, Nat.reduceAdd]
        go_wp2_with fail
        refine ⟨rfl, rfl, by (repeat' (first | with_reducible (first | exact Below.refl _ _ | assumption | refine Below.alloc ?_ ?_ _ | refine below_grew ?_ ?_ _ | refine Below.setCell ?_ ?_ _ | refine Below.drew ?_ | refine below_drewN ?_ _) | omega | (simp; done) | (simp; omega))), ?_⟩
        conv => lhs; whnf
        try rfl
      · exact fun _ => rfl
      simp only [List.nil_append, List.cons_append, Nat.reduceAdd]
      refine wpInv_det (by kernel_rfl) (by kernel_rfl) ?_
      apply Exists.intro
      refine ⟨?_, ?_, ?_⟩
      · intro U W hC hH
        have hc1 := (bcell hC).1
        have hf1 := (bcell hC).2
        simp only [HypsU, predsOf, Region.binds, List.filterMap_cons, List.filterMap_nil, if_true, List.nil_append, List.cons_append, List.getD_cons_zero, List.getD_cons_succ] at hH
        simp only [fillPuts, Act.put, List.setIfInBounds_toArray, List.set_cons_zero, List.set_cons_succ, Nat.reduceAdd]
        go_wp2_with fail
        refine ⟨rfl, rfl, by (repeat' (first | with_reducible (first | exact Below.refl _ _ | assumption | refine Below.alloc ?_ ?_ _ | refine below_grew ?_ ?_ _ | refine Below.setCell ?_ ?_ _ | refine Below.drew ?_ | refine below_drewN ?_ _) | omega | (simp; done) | (simp; omega))), ?_⟩
        conv => lhs; whnf
        try rfl
      · exact fun _ => rfl
      simp only [List.nil_append, List.cons_append, Nat.reduceAdd]
      refine wpInv_det (by kernel_rfl) (by kernel_rfl) ?_
      apply Exists.intro
      refine ⟨?_, ?_, ?_⟩
      · intro U W hC hH
        have hc1 := (bcell hC).1
        have hf1 := (bcell hC).2
        simp only [HypsU, predsOf, Region.binds, List.filterMap_cons, List.filterMap_nil, if_true, List.nil_append, List.cons_append, List.getD_cons_zero, List.getD_cons_succ] at hH
        simp only [fillPuts, Act.put, List.setIfInBounds_toArray, List.set_cons_zero, List.set_cons_succ, Nat.reduceAdd]
        go_wp2_with fail
        refine ⟨rfl, rfl, by (repeat' (first | with_reducible (first | exact Below.refl _ _ | assumption | refine Below.alloc ?_ ?_ _ | refine below_grew ?_ ?_ _ | refine Below.setCell ?_ ?_ _ | refine Below.drew ?_ | refine below_drewN ?_ _) | omega | (simp; done) | (simp; omega))), ?_⟩
        conv => lhs; whnf
        try rfl
      · exact fun _ => rfl
      simp only [List.nil_append, List.cons_append, Nat.reduceAdd]
      simp only [List.nil_append, List.cons_append, Nat.reduceAdd, fillPuts, Act.put, List.setIfInBounds_toArray, List.set_cons_zero, List.set_cons_succ]
      rintro U W hC ⟨h0, h1, h2, h3, h4, h5, h6, h7, h8, h9, h10, h11, h12, -⟩ -
      simp only [h0, h1, h2, h3, h4, h5, h6, h7, h8, h9, h10, h11, h12]
      have hRW := HR.out.keep0 hC
      have HRW := Lib.hid hRW
      have HCW := Lib.hid (HC.out.below hC)
      have d4 := hRW.c4
      have g4 := hRW.fz 4
      have dl := hRW.lt
      clear h0 h1 h2 h3 h4 h5 h6 h7 h8 h9 h10 h11 h12 hC hRW HR HC c4 c3 hl
      go_upto_region 8 with fail
      refine cut_world (fun W => RdAt c (cutS s f e e) W ∧ Chg [c.rb] w W) ⟨by rw [HCUT.out]; exact HRW.out.set4 (min v2 (R - 1)), HCW.out.setCell _ (by simp)⟩ ?_
      clear HRW HCW d4 g4 dl k0 k1 k2 k3 k4 m0 m1 m2 HCUT q1 q2 q5 q6 q7 q8 HVV HRR
      rintro V3 ⟨hR, hC⟩
      have HR := Lib.hid hR
      have HC := Lib.hid hC
      clear hR hC
      generalize cutS s f e e = S0 at *
      go_loopw [] (fun wr => ∃ S : RS, Reach c E S ∧ RdAt c S wr ∧ Chg [c.rb] w wr) (fun wr => rngAt c.rb wr)
      case atStart => exact ⟨S0, hRE.out, HR.out, HC.out⟩
      case round =>
        clear HR HC hRE
        obtain ⟨S, hre, hR, hC⟩ := hrel
        have HRE := Lib.hid hre
        have HR := Lib.hid hR
        have HC := Lib.hid hC
        have c3 := hR.c3
        have f3 := hR.fz 3
        have hl := hR.lt
        have hst := hre.taken
        obtain ⟨-, s0, s1, z0, z1⟩ := hre
        clear hR hC
        by_cases hrs : S.rng ≤ 65536
        · have HNX := Lib.hid (HRE.out.step HOKE.out HB.out hrs)
          have HNS := Lib.hid (show normS c S = { taken := S.taken + 1, raws := S.raws, rng := S.rng * 256, val := S.val * 256 + c.byte S.taken } by unfold normS; rw [if_pos hrs])
          have HRG := Lib.hid (rngAt_of HR.out)
          obtain ⟨x, hx⟩ : ∃ x, S.rng = x := ⟨_, rfl⟩
          rw [hx] at c3 s0 s1 z1 hrs HNS HRG
          go_upto_region 10 with fail
          refine cut_world (fun W => RdAt c { taken := S.taken, raws := S.raws, rng := x * 256, val := S.val } W ∧ Chg [c.rb] w W) ⟨HR.out.set3 (x * 256), HC.out.setCell _ (by simp)⟩ ?_
          clear HR HC c3 f3 hl
          rintro V4 ⟨hR, hC⟩
          have HR4 := Lib.hid hR
          have HC4 := Lib.hid hC
          have hbb := HB.out S.taken
          have hl := hR.lt
          clear hR hC
          have HNXT := Lib.hid (fun W hp => rdNext c { taken := S.taken, raws := S.raws, rng := x * 256, val := S.val } (by simp only; omega) W hp hn)
          have HF := Lib.hid (fun (b : Bool) W (hp : RdAt c { taken := if b = true then S.taken + 1 else S.taken, raws := S.raws, rng := x * 256, val := S.val } W) => (show W.cell? ⟨c.rb, 4, none⟩ = some (.int .u32 S.val) from hp.c4))
          have HPD := Lib.hid (fun (b : Bool) W W' (hb : Below W.heap.size W W') (hp : RdAt c { taken := if b = true then S.taken + 1 else S.taken, raws := S.raws, rng := x * 256, val := S.val } W) => hp.keep0 hb)
          obtain ⟨z, hz⟩ : ∃ z, c.byte S.taken = z := ⟨_, rfl⟩
          rw [hz] at hbb HNS
          have HZ := Lib.hid hz
          obtain ⟨b0, b1⟩ := hbb
          clear hz
          refine region_one [c.rb] 7 11 (fun b W => RdAt c { taken := if b = true then S.taken + 1 else S.taken, raws := S.raws, rng := x * 256, val := S.val } W) (by kernel_rfl) (by kernel_rfl) HR4.out (fun W h => h.keep0 (Below.refl _ _).drew) HPD.out ?_
          simp only [List.take_succ_cons, List.take_zero, List.drop_succ_cons, List.drop_zero]
          refine RI.wpInv_det (by kernel_rfl) (by kernel_rfl) ?_
          apply Exists.intro
          refine ⟨?_, ?_, ?_⟩
          · rintro D U W hDi ⟨hC, hP⟩ hH
            have hF := HF.out _ W hP
            simp only [HypsU, predsOf, Region.binds, List.filterMap_cons, List.filterMap_nil, if_true, List.nil_append, List.cons_append, List.getD_cons_zero, List.getD_cons_succ] at hH
            simp only [fillPuts, Act.put, List.setIfInBounds_toArray, List.set_cons_zero, List.set_cons_succ, Nat.reduceAdd]
            go_wp2_with fail
            refine ⟨rfl, rfl, (show Below W.heap.size W _ from by (repeat' (first | with_reducible (first | exact Below.refl _ _ | assumption | refine Below.alloc ?_ ?_ _ | refine below_grew ?_ ?_ _ | refine Below.setCell ?_ ?_ _ | refine Below.drew ?_ | refine below_drewN ?_ _) | omega | (simp; done) | (simp; omega)))), ?_⟩
            conv => lhs; whnf
            try rfl
          · exact fun _ => rfl
          simp only [List.nil_append, List.cons_append, Nat.reduceAdd]
          refine RI.wpInv_det (by kernel_rfl) (by kernel_rfl) ?_
          apply Exists.intro
          refine ⟨?_, ?_, ?_⟩
          · rintro D U W hDi ⟨hC, hP⟩ hH
            have hF := HF.out _ W hP
            simp only [HypsU, predsOf, Region.binds, List.filterMap_cons, List.filterMap_nil, if_true, List.nil_append, List.cons_append, List.getD_cons_zero, List.getD_cons_succ] at hH
            simp only [fillPuts, Act.put, List.setIfInBounds_toArray, List.set_cons_zero, List.set_cons_succ, Nat.reduceAdd]
            go_wp2_with fail
            refine ⟨rfl, rfl, (show Below W.heap.size W _ from by (repeat' (first | with_reducible (first | exact Below.refl _ _ | assumption | refine Below.alloc ?_ ?_ _ | refine below_grew ?_ ?_ _ | refine Below.setCell ?_ ?_ _ | refine Below.drew ?_ | refine below_drewN ?_ _) | omega | (simp; done) | (simp; omega)))), ?_⟩
            conv => lhs; whnf
            try rfl
          · exact fun _ => rfl
          simp only [List.nil_append, List.cons_append, Nat.reduceAdd]
          refine RI.wpInv_det (by kernel_rfl) (by kernel_rfl) ?_
          apply Exists.intro
          refine ⟨?_, ?_, ?_⟩
          · rintro D U W hDi ⟨hC, hP⟩ hH
            have hF := HF.out _ W hP
            simp only [HypsU, predsOf, Region.binds, List.filterMap_cons, List.filterMap_nil, if_true, List.nil_append, List.cons_append, List.getD_cons_zero, List.getD_cons_succ] at hH
            simp only [fillPuts, Act.put, List.setIfInBounds_toArray, List.set_cons_zero, List.set_cons_succ, Nat.reduceAdd]
            go_wp2_with fail
            refine ⟨rfl, rfl, (show Below W.heap.size W _ from by (repeat' (first | with_reducible (first | exact Below.refl _ _ | assumption | refine Below.alloc ?_ ?_ _ | refine below_grew ?_ ?_ _ | refine Below.setCell ?_ ?_ _ | refine Below.drew ?_ | refine below_drewN ?_ _) | omega | (simp; done) | (simp; omega)))), ?_⟩
            conv => lhs; whnf
            try rfl
          · exact fun _ => rfl
          simp only [List.nil_append, List.cons_append, Nat.reduceAdd]
          refine RI.wpInv_det (by kernel_rfl) (by kernel_rfl) ?_
          apply Exists.intro
          refine ⟨?_, ?_, ?_⟩
          · rintro D U W hDi ⟨hC, hP⟩ hH
            have hF := HF.out _ W hP
            simp only [HypsU, predsOf, Region.binds, List.filterMap_cons, List.filterMap_nil, if_true, List.nil_append, List.cons_append, List.getD_cons_zero, List.getD_cons_succ] at hH
            simp only [fillPuts, Act.put, List.setIfInBounds_toArray, List.set_cons_zero, List.set_cons_succ, Nat.reduceAdd]
            go_wp2_with fail
            refine ⟨rfl, rfl, (show Below W.heap.size W _ from by (repeat' (first | with_reducible (first | exact Below.refl _ _ | assumption | refine Below.alloc ?_ ?_ _ | refine below_grew ?_ ?_ _ | refine Below.setCell ?_ ?_ _ | refine Below.drew ?_ | refine below_drewN ?_ _) | omega | (simp; done) | (simp; omega)))), ?_⟩
            conv => lhs; whnf
            try rfl
          · exact fun _ => rfl
          simp only [List.nil_append, List.cons_append, Nat.reduceAdd]
          refine RI.wpInv_det (by kernel_rfl) (by kernel_rfl) ?_
          apply Exists.intro
          refine ⟨?_, ?_, ?_⟩
          · rintro D U W hDi ⟨hC, hP⟩ hH
            have hF := HF.out _ W hP
            simp only [HypsU, predsOf, Region.binds, List.filterMap_cons, List.filterMap_nil, if_true, List.nil_append, List.cons_append, List.getD_cons_zero, List.getD_cons_succ] at hH
            simp only [fillPuts, Act.put, List.setIfInBounds_toArray, List.set_cons_zero, List.set_cons_succ, Nat.reduceAdd]
            go_wp2_with fail
            refine ⟨rfl, rfl, (show Below W.heap.size W _ from by (repeat' (first | with_reducible (first | exact Below.refl _ _ | assumption | refine Below.alloc ?_ ?_ _ | refine below_grew ?_ ?_ _ | refine Below.setCell ?_ ?_ _ | refine Below.drew ?_ | refine below_drewN ?_ _) | omega | (simp; done) | (simp; omega)))), ?_⟩
            conv => lhs; whnf
            try rfl
          · exact fun _ => rfl
          simp only [List.nil_append, List.cons_append, Nat.reduceAdd]
          refine RI.wpInv_det (by kernel_rfl) (by kernel_rfl) ?_
          apply Exists.intro
          refine ⟨?_, ?_, ?_⟩
          · rintro D U W hDi ⟨hC, hP⟩ hH
            have hF := HF.out _ W hP
            simp only [HypsU, predsOf, Region.binds, List.filterMap_cons, List.filterMap_nil, if_true, List.nil_append, List.cons_append, List.getD_cons_zero, List.getD_cons_succ] at hH
            simp only [fillPuts, Act.put, List.setIfInBounds_toArray, List.set_cons_zero, List.set_cons_succ, Nat.reduceAdd]
            (try simp only [hH]); go_wp2_with fail
            refine ⟨rfl, rfl, (show Below W.heap.size W _ from by (repeat' (first | with_reducible (first | exact Below.refl _ _ | assumption | refine Below.alloc ?_ ?_ _ | refine below_grew ?_ ?_ _ | refine Below.setCell ?_ ?_ _ | refine Below.drew ?_ | refine below_drewN ?_ _) | omega | (simp; done) | (simp; omega)))), ?_⟩
            conv => lhs; whnf
            try rfl
          · exact fun _ => rfl
          simp only [List.nil_append, List.cons_append, Nat.reduceAdd]
          refine RI.wpInv_det (by kernel_rfl) (by kernel_rfl) ?_
          apply Exists.intro
          refine ⟨?_, ?_, ?_⟩
          · rintro D U W hDi ⟨hC, hP⟩ hH
            have hF := HF.out _ W hP
            simp only [HypsU, predsOf, Region.binds, List.filterMap_cons, List.filterMap_nil, if_true, List.nil_append, List.cons_append, List.getD_cons_zero, List.getD_cons_succ] at hH
            simp only [fillPuts, Act.put, List.setIfInBounds_toArray, List.set_cons_zero, List.set_cons_succ, Nat.reduceAdd]
            go_wp2_with fail
            refine ⟨rfl, rfl, (show Below W.heap.size W _ from by (repeat' (first | with_reducible (first | exact Below.refl _ _ | assumption | refine Below.alloc ?_ ?_ _ | refine below_grew ?_ ?_ _ | refine Below.setCell ?_ ?_ _ | refine Below.drew ?_ | refine below_drewN ?_ _) | omega | (simp; done) | (simp; omega)))), ?_⟩
            conv => lhs; whnf
            try rfl
          · exact fun _ => rfl
          simp only [List.nil_append, List.cons_append, Nat.reduceAdd]
          refine RI.wpInv_det (by kernel_rfl) (by kernel_rfl) ?_
          apply Exists.intro
          refine ⟨?_, ?_, ?_⟩
          · rintro D U W hDi ⟨hC, hP⟩ hH
            rw [hDi] at hP
            simp only [HypsU, predsOf, Region.binds, List.filterMap_cons, List.filterMap_nil, if_true, List.nil_append, List.cons_append, List.getD_cons_zero, List.getD_cons_succ] at hH
            simp only [fillPuts, Act.put, List.setIfInBounds_toArray, List.set_cons_zero, List.set_cons_succ, Nat.reduceAdd]
            (try simp only [hH]); go_wp2_with fail; refine (HNXT.out W hP).mono ?_; rintro e2 w' ⟨rfl, hp1, hg1⟩; rw [HZ.out]; go_wp2_with fail
            refine ⟨rfl, rfl, (show Chg _ _ _ ∧ _ from ⟨hg1, hp1⟩), ?_⟩
            conv => lhs; whnf
            try rfl
          · exact fun _ => rfl
          simp only [List.nil_append, List.cons_append, Nat.reduceAdd]
          refine RI.wpInv_det (by kernel_rfl) (by kernel_rfl) ?_
          apply Exists.intro
          refine ⟨?_, ?_, ?_⟩
          · rintro D U W hDi ⟨hC, hP⟩ hH
            have hF := HF.out _ W hP
            simp only [HypsU, predsOf, Region.binds, List.filterMap_cons, List.filterMap_nil, if_true, List.nil_append, List.cons_append, List.getD_cons_zero, List.getD_cons_succ] at hH
            simp only [fillPuts, Act.put, List.setIfInBounds_toArray, List.set_cons_zero, List.set_cons_succ, Nat.reduceAdd]
            (try simp only [hH]); go_wp2_with fail
            refine ⟨rfl, rfl, (show Below W.heap.size W _ from by (repeat' (first | with_reducible (first | exact Below.refl _ _ | assumption | refine Below.alloc ?_ ?_ _ | refine below_grew ?_ ?_ _ | refine Below.setCell ?_ ?_ _ | refine Below.drew ?_ | refine below_drewN ?_ _) | omega | (simp; done) | (simp; omega)))), ?_⟩
            conv => lhs; whnf
            try rfl
          · exact fun _ => rfl
          simp only [List.nil_append, List.cons_append, Nat.reduceAdd]
          refine RI.wpInv_det (by kernel_rfl) (by kernel_rfl) ?_
          apply Exists.intro
          refine ⟨?_, ?_, ?_⟩
          · rintro D U W hDi ⟨hC, hP⟩ hH
            have hF := HF.out _ W hP
            simp only [HypsU, predsOf, Region.binds, List.filterMap_cons, List.filterMap_nil, if_true, List.nil_append, List.cons_append, List.getD_cons_zero, List.getD_cons_succ] at hH
            simp only [fillPuts, Act.put, List.setIfInBounds_toArray, List.set_cons_zero, List.set_cons_succ, Nat.reduceAdd]
            go_wp2_with fail
            refine ⟨rfl, rfl, (show Below W.heap.size W _ from by (repeat' (first | with_reducible (first | exact Below.refl _ _ | assumption | refine Below.alloc ?_ ?_ _ | refine below_grew ?_ ?_ _ | refine Below.setCell ?_ ?_ _ | refine Below.drew ?_ | refine below_drewN ?_ _) | omega | (simp; done) | (simp; omega)))), ?_⟩
            conv => lhs; whnf
            try rfl
          · exact fun _ => rfl
          simp only [List.nil_append, List.cons_append, Nat.reduceAdd]
          refine RI.wpInv_det (by kernel_rfl) (by kernel_rfl) ?_
          apply Exists.intro
          refine ⟨?_, ?_, ?_⟩
          · rintro D U W hDi ⟨hC, hP⟩ hH
            have hF := HF.out _ W hP
            simp only [HypsU, predsOf, Region.binds, List.filterMap_cons, List.filterMap_nil, if_true, List.nil_append, List.cons_append, List.getD_cons_zero, List.getD_cons_succ] at hH
            simp only [fillPuts, Act.put, List.setIfInBounds_toArray, List.set_cons_zero, List.set_cons_succ, Nat.reduceAdd]
            go_wp2_with fail
            refine ⟨rfl, rfl, (show Below W.heap.size W _ from by (repeat' (first | with_reducible (first | exact Below.refl _ _ | assumption | refine Below.alloc ?_ ?_ _ | refine below_grew ?_ ?_ _ | refine Below.setCell ?_ ?_ _ | refine Below.drew ?_ | refine below_drewN ?_ _) | omega | (simp; done) | (simp; omega)))), ?_⟩
            conv => lhs; whnf
            try rfl
          · exact fun _ => rfl
          simp only [List.nil_append, List.cons_append, Nat.reduceAdd]
          simp only [List.nil_append, List.cons_append, Nat.reduceAdd, fillPuts, Act.put, List.setIfInBounds_toArray, List.set_cons_zero, List.set_cons_succ]
          rintro D U W hD ⟨hC, hP⟩ ⟨h0, h1, h2, h3, h4, h5, h6, h7, h8, h9, h10, -⟩ -
          rw [hD 7 (by omega)] at hP
          simp only [h0, h1, h2, h3, h4, h5, h6, h7, h8, h9, h10]
          have hP2 : RdAt c { taken := S.taken + 1, raws := S.raws, rng := x * 256, val := S.val } W := hP
          rw [or_byte S.val z z0 b0 b1 (by omega)]
          have HPW := Lib.hid hP2
          have HCW := Lib.hid (HC4.out.trans hC)
          have d4 := hP2.c4
          have g4 := hP2.fz 4
          have dl := hP2.lt
          have hmz : rngAt c.rb (W.setCell ⟨c.rb, 4, none⟩ (.int .u32 (S.val * 256 + z))) < rngAt c.rb wr := by
            rw [rngAt_of (hP2.set4 (S.val * 256 + z)), HRG.out]
            simp only
            omega
          have HMZ := Lib.hid hmz
          clear h0 h1 h2 h3 h4 h5 h6 h7 h8 h9 h10 hC hP hP2 HR4 HC4 HNXT HF HPD hl hmz
          go_wp2_with fail
          go_roundw
          case rel => exact ⟨normS c S, HNX.out, by rw [HNS.out]; exact HPW.out.set4 (S.val * 256 + z), HCW.out.setCell _ (by simp)⟩
          case measure => exact HMZ.out
        · have hse := HRE.out.done (by omega)
          have hrs' : 65536 < S.rng := by omega
          subst hse
          go_wp2_with fail
          go_end0
          exact ⟨rfl, HR.out, HC.out⟩
    · rw [if_neg het2] at q1 q2 HCUT
      go_upto_region 6 with fail
      refine cut_world (fun W => RdAt c { taken := s.taken, raws := s.raws, rng := ep, val := s.val } W ∧ Chg [c.rb] w W) ⟨HR.out.set3 (ep), HC.out.setCell _ (by simp)⟩ ?_
      have m2 : v ≤ 16777216 := by omega
      clear HR HC c3 f3 hl hq1 p1 p2 r0 r1 v1 ht0 hfp hep
      rintro V1 ⟨hR, hC⟩
      have HR := Lib.hid hR
      have HC := Lib.hid hC
      have c4 := hR.c4
      have hl := hR.lt
      simp only [HVV.out] at c4
      clear hR hC
      obtain ⟨R, hR1⟩ : ∃ x, ep = x := ⟨_, rfl⟩
      rw [hR1] at q1 q2 HCUT HR
      clear hR1
      have m0 : 0 ≤ v - min fp v := by omega
      have m1 : v - min fp v ≤ v := by omega
      refine wp_region_inv [] (fun W => Below V1.heap.size V1 W) (fun W W' => Below W.heap.size W W') 13 (by kernel_rfl) (by kernel_rfl) (by kernel_rfl) ((Below.refl _ _).drew) (fun W W' h h' => h.trans (h'.mono h.size)) (fun _ _ h => h.size) ?_
      simp only [List.take_succ_cons, List.take_zero, List.drop_succ_cons, List.drop_zero]
      refine wpInv_det (by kernel_rfl) (by kernel_rfl) ?_
      apply Exists.intro
      refine ⟨?_, ?_, ?_⟩
      · intro U W hC hH
        have hc1 := (bcell hC).1
        have hf1 := (bcell hC).2
        simp only [HypsU, predsOf, Region.binds, List.filterMap_cons, List.filterMap_nil, if_true, List.nil_append, List.cons_append, List.getD_cons_zero, List.getD_cons_succ] at hH
        simp only [fillPuts, Act.put, List.setIfInBounds_toArray, List.set_cons_zero, List.set_cons_succ, Nat.reduceAdd]
        go_wp2_with fail
        refine ⟨rfl, rfl, by (repeat' (first | with_reducible (first | exact Below.refl _ _ | assumption | refine Below.alloc ?_ ?_ _ | refine below_grew ?_ ?_ _ | refine Below.setCell ?_ ?_ _ | refine Below.drew ?_ | refine below_drewN ?_ _) | omega | (simp; done) | (simp; omega))), ?_⟩
        conv => lhs; whnf
        try rfl
      · exact fun _ => rfl
      simp only [List.nil_append, List.cons_append, Nat.reduceAdd]
      refine wpInv_det (by kernel_rfl) (by kernel_rfl) ?_
      apply Exists.intro
      refine ⟨?_, ?_, ?_⟩
      · intro U W hC hH
        have hc1 := (bcell hC).1
        have hf1 := (bcell hC).2
        simp only [HypsU, predsOf, Region.binds, List.filterMap_cons, List.filterMap_nil, if_true, List.nil_append, List.cons_append, List.getD_cons_zero, List.getD_cons_succ] at hH
        simp only [fillPuts, Act.put, List.setIfInBounds_toArray, List.set_cons_zero, List.set_cons_succ, Nat.reduceAdd]
        go_wp2_with fail
        refine ⟨rfl, rfl, by (repeat' (first | with_reducible (first | exact Below.refl _ _ | assumption | refine Below.alloc ?_ ?_ _ | refine below_grew ?_ ?_ _ | refine Below.setCell ?_ ?_ _ | refine Below.drew ?_ | refine below_drewN ?_ _) | omega | (simp; done) | (simp; omega))), ?_⟩
        conv => lhs; whnf
        try rfl
      · exact fun _ => rfl
      simp only [List.nil_append, List.cons_append, Nat.reduceAdd]
      refine wpInv_det (by kernel_rfl) (by kernel_rfl) ?_
      apply Exists.intro
      refine ⟨?_, ?_, ?_⟩
      · intro U W hC hH
        have hc1 := (bcell hC).1
        have hf1 := (bcell hC).2
        simp only [HypsU, predsOf, Region.binds, List.filterMap_cons, List.filterMap_nil, if_true, List.nil_append, List.cons_append, List.getD_cons_zero, List.getD_cons_succ] at hH
        simp only [fillPuts, Act.put, List.setIfInBounds_toArray, List.set_cons_zero, List.set_cons_succ, Nat.reduceAdd]
        go_wp2_with fail
        refine ⟨rfl, rfl, by (repeat' (first | with_reducible (first | exact Below.refl _ _ | assumption | refine Below.alloc ?_ ?_ _ | refine below_grew ?_ ?_ _ | refine Below.setCell ?_ ?_ _ | refine Below.drew ?_ | refine below_drewN ?_ _) | omega | (simp; done) | (simp; omega))), ?_⟩
        conv => lhs; whnf
        try rfl
      · exact fun _ => rfl
      simp only [List.nil_append, List.cons_append, Nat.reduceAdd]
      refine wpInv_det (by kernel_rfl) (by kernel_rfl) ?_
      apply Exists.intro
      refine ⟨?_, ?_, ?_⟩
      · intro U W hC hH
        have hc1 := (bcell hC).1
        have hf1 := (bcell hC).2
        simp only [HypsU, predsOf, Region.binds, List.filterMap_cons, List.filterMap_nil, if_true, List.nil_append, List.cons_append, List.getD_cons_zero, List.getD_cons_succ] at hH
        simp only [fillPuts, Act.put, List.setIfInBounds_toArray, List.set_cons_zero, List.set_cons_succ, Nat.reduceAdd]
        go_wp2_with fail
        refine ⟨rfl, rfl, by (repeat' (first | with_reducible (first | exact Below.refl _ _ | assumption | refine Below.alloc ?_ ?_ _ | refine below_grew ?_ ?_ _ | refine Below.setCell ?_ ?_ _ | refine Below.drew ?_ | refine below_drewN ?_ _) | omega | (simp; done) | (simp; omega))), ?_⟩
        conv => lhs; whnf
        try rfl
      · exact fun _ => rfl
      simp only [List.nil_append, List.cons_append, Nat.reduceAdd]
      refine wpInv_det (by kernel_rfl) (by kernel_rfl) ?_
      apply Exists.intro
      refine ⟨?_, ?_, ?_⟩
      · intro U W hC hH
        have hc1 := (bcell hC).1
        have hf1 := (bcell hC).2
        simp only [HypsU, predsOf, Region.binds, List.filterMap_cons, List.filterMap_nil, if_true, List.nil_append, List.cons_append, List.getD_cons_zero, List.getD_cons_succ] at hH
        simp only [fillPuts, Act.put, List.setIfInBounds_toArray, List.set_cons_zero, List.set_cons_succ, Nat.reduceAdd]
        go_wp2_with fail
        refine ⟨rfl, rfl, by (repeat' (first | with_reducible (first | exact Below.refl _ _ | assumption | refine Below.alloc ?_ ?_ _ | refine below_grew ?_ ?_ _ | refine Below.setCell ?_ ?_ _ | refine Below.drew ?_ | refine below_drewN ?_ _) | omega | (simp; done) | (simp; omega))), ?_⟩
        conv => lhs; whnf
        try rfl
      · exact fun _ => rfl
      simp only [List.nil_append, List.cons_append, Nat.reduceAdd]
      refine wpInv_det (by kernel_rfl) (by kernel_rfl) ?_
      apply Exists.intro
      refine ⟨?_, ?_, ?_⟩
      · intro U W hC hH
        have hc1 := (bcell hC).1
        have hf1 := (bcell hC).2
        simp only [HypsU, predsOf, Region.binds, List.filterMap_cons, List.filterMap_nil, if_true, List.nil_append, List.cons_append, List.getD_cons_zero, List.getD_cons_succ] at hH
        simp only [fillPuts, Act.put, List.setIfInBounds_toArray, List.set_cons_zero, List.set_cons_succ, Nat.reduceAdd]
        go_wp2_with fail
        refine ⟨rfl, rfl, by (repeat' (first | with_reducible (first | exact Below.refl _ _ | assumption | refine Below.alloc ?_ ?_ _ | refine below_grew ?_ ?_ _ | refine Below.setCell ?_ ?_ _ | refine Below.drew ?_ | refine below_drewN ?_ _) | omega | (simp; done) | (simp; omega))), ?_⟩
        conv => lhs; whnf
        try rfl
      · exact fun _ => rfl
      simp only [List.nil_append, List.cons_append, Nat.reduceAdd]
      refine wpInv_det (by kernel_rfl) (by kernel_rfl) ?_
      apply Exists.intro
      refine ⟨?_, ?_, ?_⟩
      · intro U W hC hH
        have hc1 := (bcell hC).1
        have hf1 := (bcell hC).2
        simp only [HypsU, predsOf, Region.binds, List.filterMap_cons, List.filterMap_nil, if_true, List.nil_append, List.cons_append, List.getD_cons_zero, List.getD_cons_succ] at hH
        simp only [fillPuts, Act.put, List.setIfInBounds_toArray, List.set_cons_zero, List.set_cons_succ, Nat.reduceAdd]
        go_wp2_with fail
        refine ⟨rfl, rfl, by (repeat' (first | with_reducible (first | exact Below.refl _ _ | assumption | refine Below.alloc ?_ ?_ _ | refine below_grew ?_ ?_ _ | refine Below.setCell ?_ ?_ _ | refine Below.drew ?_ | refine below_drewN ?_ _) | omega | (simp; done) | (simp; omega))), ?_⟩
        conv => lhs; whnf
        try rfl
      · exact fun _ => rfl
      simp only [List.nil_append, List.cons_append, Nat.reduceAdd]
      refine wpInv_det (by kernel_rfl) (by kernel_rfl) ?_
      apply Exists.intro
      refine ⟨?_, ?_, ?_⟩
      · intro U W hC hH
        have hc1 := (bcell hC).1
        have hf1 := (bcell hC).2
        simp only [HypsU, predsOf, Region.binds, List.filterMap_cons, List.filterMap_nil, if_true, List.nil_append, List.cons_append, List.getD_cons_zero, List.getD_cons_succ] at hH
        simp only [fillPuts, Act.put, List.setIfInBounds_toArray, List.set_cons_zero, List.set_cons_succ, Nat.reduceAdd]
        go_wp2_with fail
        refine ⟨rfl, rfl, by (repeat' (first | with_reducible (first | exact Below.refl _ _ | assumption | refine Below.alloc ?_ ?_ _ | refine below_grew ?_ ?_ _ | refine Below.setCell ?_ ?_ _ | refine Below.drew ?_ | refine below_drewN ?_ _) | omega | (simp; done) | (simp; omega))), ?_⟩
        conv => lhs; whnf
        try rfl
      · exact fun _ => rfl
      simp only [List.nil_append, List.cons_append, Nat.reduceAdd]
      refine wpInv_det (by kernel_rfl) (by kernel_rfl) ?_
      apply Exists.intro
      refine ⟨?_, ?_, ?_⟩
      · intro U W hC hH
        have hc1 := (bcell hC).1
        have hf1 := (bcell hC).2
        simp only [HypsU, predsOf, Region.binds, List.filterMap_cons, List.filterMap_nil, if_true, List.nil_append, List.cons_append, List.getD_cons_zero, List.getD_cons_succ] at hH
        simp only [fillPuts, Act.put, List.setIfInBounds_toArray, List.set_cons_zero, List.set_cons_succ, Nat.reduceAdd]
        go_wp2_with fail
        refine ⟨rfl, rfl, by (repeat' (first | with_reducible (first | exact Below.refl _ _ | assumption | refine Below.alloc ?_ ?_ _ | refine below_grew ?_ ?_ _ | refine Below.setCell ?_ ?_ _ | refine Below.drew ?_ | refine below_drewN ?_ _) | omega | (simp; done) | (simp; omega))), ?_⟩
        conv => lhs; whnf
        try rfl
      · exact fun _ => rfl
      simp only [List.nil_append, List.cons_append, Nat.reduceAdd]
      refine wpInv_det (by kernel_rfl) (by kernel_rfl) ?_
      apply Exists.intro
      refine ⟨?_, ?_, ?_⟩
      · intro U W hC hH
        have hc1 := (bcell hC).1
        have hf1 := (bcell hC).2
        simp only [HypsU, predsOf, Region.binds, List.filterMap_cons, List.filterMap_nil, if_true, List.nil_append, List.cons_append, List.getD_cons_zero, List.getD_cons_succ] at hH
        simp only [fillPuts, Act.put, List.setIfInBounds_toArray, List.set_cons_zero, List.set_cons_succ, Nat.reduceAdd]
        go_wp2_with fail
        refine ⟨rfl, rfl, by (repeat' (first | with_reducible (first | exact Below.refl _ _ | assumption | refine Below.alloc ?_ ?_ _ | refine below_grew ?_ ?_ _ | refine Below.setCell ?_ ?_ _ | refine Below.drew ?_ | refine below_drewN ?_ _) | omega | (simp; done) | (simp; omega))), ?_⟩
        conv => lhs; whnf
        try rfl
      · exact fun _ => rfl
      simp only [List.nil_append, List.cons_append, Nat.reduceAdd]
      refine wpInv_det (by kernel_rfl) (by kernel_rfl) ?_
      apply Exists.intro
      refine ⟨?_, ?_, ?_⟩
      · intro U W hC hH
        have hc1 := (bcell hC).1
        have hf1 := (bcell hC).2
        simp only [HypsU, predsOf, Region.binds, List.filterMap_cons, List.filterMap_nil, if_true, List.nil_append, List.cons_append, List.getD_cons_zero, List.getD_cons_succ] at hH
        simp only [fillPuts, Act.put, List.setIfInBounds_toArray, List.set_cons_zero, List.set_cons_succ, Nat.reduceAdd]
        go_wp2_with fail
        refine ⟨rfl, rfl, by (repeat' (first | with_reducible (first | exact Below.refl _ _ | assumption | refine Below.alloc ?_ ?_ _ | refine below_grew ?_ ?_ _ | refine Below.setCell ?_ ?_ _ | refine Below.drew ?_ | refine below_drewN ?_ _) | omega | (simp; done) | (simp; omega))), ?_⟩
        conv => lhs; whnf
        try rfl
      · exact fun _ => rfl
      simp only [List.nil_append, List.cons_append, Nat.reduceAdd]
      refine wpInv_det (by kernel_rfl) (by kernel_rfl) ?_
      apply Exists.intro
      refine ⟨?_, ?_, ?_⟩
      · intro U W hC hH
        have hc1 := (bcell hC).1
        have hf1 := (bcell hC).2
        simp only [HypsU, predsOf, Region.binds, List.filterMap_cons, List.filterMap_nil, if_true, List.nil_append, List.cons_append, List.getD_cons_zero, List.getD_cons_succ] at hH
        simp only [fillPuts, Act.put, List.setIfInBounds_toArray, List.set_cons_zero, List.set_cons_succ, Nat.reduceAdd]
        go_wp2_with fail
        refine ⟨rfl, rfl, by (repeat' (first | with_reducible (first | exact Below.refl _ _ | assumption | refine Below.alloc ?_ ?_ _ | refine below_grew ?_ ?_ _ | refine Below.setCell ?_ ?_ _ | refine Below.drew ?_ | refine below_drewN ?_ _) | omega | (simp; done) | (simp; omega))), ?_⟩
        conv => lhs; whnf
        try rfl
      · exact fun _ => rfl
      simp only [List.nil_append, List.cons_append, Nat.reduceAdd]
      refine wpInv_det (by kernel_rfl) (by kernel_rfl) ?_
      apply Exists.intro
      refine ⟨?_, ?_, ?_⟩
      · intro U W hC hH
        have hc1 := (bcell hC).1
        have hf1 := (bcell hC).2
        simp only [HypsU, predsOf, Region.binds, List.filterMap_cons, List.filterMap_nil, if_true, List.nil_append, List.cons_append, List.getD_cons_zero, List.getD_cons_succ] at hH
        simp only [fillPuts, Act.put, List.setIfInBounds_toArray, List.set_cons_zero, List.set_cons_succ, Nat.reduceAdd]
        go_wp2_with fail
        refine ⟨rfl, rfl, by (repeat' (first | with_reducible (first | exact Below.refl _ _ | assumption | refine Below.alloc ?_ ?_ _ | refine below_grew ?_ ?_ _ | refine Below.setCell ?_ ?_ _ | refine Below.drew ?_ | refine below_drewN ?_ _) | omega | (simp; done) | (simp; omega))), ?_⟩
        conv => lhs; whnf
        try rfl
      · exact fun _ => rfl
      simp only [List.nil_append, List.cons_append, Nat.reduceAdd]
      simp only [List.nil_append, List.cons_append, Nat.reduceAdd, fillPuts, Act.put, List.setIfInBounds_toArray, List.set_cons_zero, List.set_cons_succ]
      rintro U W hC ⟨h0, h1, h2, h3, h4, h5, h6, h7, h8, h9, h10, h11, h12, -⟩ -
      simp only [h0, h1, h2, h3, h4, h5, h6, h7, h8, h9, h10, h11, h12]
      have hRW := HR.out.keep0 hC
      have HRW := Lib.hid hRW
      have HCW := Lib.hid (HC.out.below hC)
      have d4 := hRW.c4
      have g4 := hRW.fz 4
      have dl := hRW.lt
      clear h0 h1 h2 h3 h4 h5 h6 h7 h8 h9 h10 h11 h12 hC hRW HR HC c4 hl
      go_upto_region 7 with fail
      refine cut_world (fun W => RdAt c { taken := s.taken, raws := s.raws, rng := R, val := v - min fp v } W ∧ Chg [c.rb] w W) ⟨HRW.out.set4 (v - min fp v), HCW.out.setCell _ (by simp)⟩ ?_
      clear HRW HCW d4 g4 dl
      rintro V2 ⟨hR, hC⟩
      have HR := Lib.hid hR
      have HC := Lib.hid hC
      have c3 := hR.c3
      have c4 := hR.c4
      have hl := hR.lt
      simp only at c3 c4
      clear hR hC
      obtain ⟨v2, hv2⟩ : ∃ x, v - min fp v = x := ⟨_, rfl⟩
      rw [hv2] at m0 m1 HCUT HR c4
      clear hv2
      have k0 : 0 ≤ R - 1 := by omega
      have k1 : R - 1 ≤ 16777216 := by omega
      have k2 : v2 ≤ 16777216 := by omega
      have k3 : 0 ≤ min v2 (R - 1) := by omega
      have k4 : min v2 (R - 1) ≤ 16777216 := by omega
      refine wp_region_inv [] (fun W => Below V2.heap.size V2 W) (fun W W' => Below W.heap.size W W') 13 (by kernel_rfl) (by kernel_rfl) (by kernel_rfl) ((Below.refl _ _).drew) (fun W W' h h' => h.trans (h'.mono h.size)) (fun _ _ h => h.size) ?_
      simp only [List.take_succ_cons, List.take_zero, List.drop_succ_cons, List.drop_zero]
      refine wpInv_det (by kernel_rfl) (by kernel_rfl) ?_
      apply Exists.intro
      refine ⟨?_, ?_, ?_⟩
      · intro U W hC hH
        have hc1 := (bcell hC).1
        have hf1 := (bcell hC).2
        simp only [HypsU, predsOf, Region.binds, List.filterMap_cons, List.filterMap_nil, if_true, List.nil_append, List.cons_append, List.getD_cons_zero, List.getD_cons_succ] at hH
        simp only [fillPuts, Act.put, List.setIfInBounds_toArray, List.set_cons_zero, List.set_cons_succ, Nat.reduceAdd]
        go_wp2_with fail
        refine ⟨rfl, rfl, by (repeat' (first | with_reducible (first | exact Below.refl _ _ | assumption | refine Below.alloc ?_ ?_ _ | refine below_grew ?_ ?_ _ | refine Below.setCell ?_ ?_ _ | refine Below.drew ?_ | refine below_drewN ?_ _) | omega | (simp; done) | (simp; omega))), ?_⟩
        conv => lhs; whnf
        try rfl
      · exact fun _ => rfl
      simp only [List.nil_append, List.cons_append, Nat.reduceAdd]
      refine wpInv_det (by kernel_rfl) (by kernel_rfl) ?_
      apply Exists.intro
      refine ⟨?_, ?_, ?_⟩
      · intro U W hC hH
        have hc1 := (bcell hC).1
        have hf1 := (bcell hC).2
        simp only [HypsU, predsOf, Region.binds, List.filterMap_cons, List.filterMap_nil, if_true, List.nil_append, List.cons_append, List.getD_cons_zero, List.getD_cons_succ] at hH
        simp only [fillPuts, Act.put, List.setIfInBounds_toArray, List.set_cons_zero, List.set_cons_succ, Nat.reduceAdd]
        go_wp2_with fail
        refine ⟨rfl, rfl, by (repeat' (first | with_reducible (first | exact Below.refl _ _ | assumption | refine Below.alloc ?_ ?_ _ | refine below_grew ?_ ?_ _ | refine Below.setCell ?_ ?_ _ | refine Below.drew ?_ | refine below_drewN ?_ _) | omega | (simp; done) | (simp; omega))), ?_⟩
        conv => lhs; whnf
        try rfl
      · exact fun _ => rfl
      simp only [List.nil_append, List.cons_append, Nat.reduceAdd]
      refine wpInv_det (by kernel_rfl) (by kernel_rfl) ?_
      apply Exists.intro
      refine ⟨?_, ?_, ?_⟩
      · intro U W hC hH
        have hc1 := (bcell hC).1
        have hf1 := (bcell hC).2
        simp only [HypsU, predsOf, Region.binds, List.filterMap_cons, List.filterMap_nil, if_true, List.nil_append, List.cons_append, List.getD_cons_zero, List.getD_cons_succ] at hH
        simp only [fillPuts, Act.put, List.setIfInBounds_toArray, List.set_cons_zero, List.set_cons_succ, Nat.reduceAdd]
        go_wp2_with fail
        refine ⟨rfl, rfl, by (repeat' (first | with_reducible (first | exact Below.refl _ _ | assumption | refine Below.alloc ?_ ?_ _ | refine below_grew ?_ ?_ _ | refine Below.setCell ?_ ?_ _ | refine Below.drew ?_ | refine below_drewN ?_ _) | omega | (simp; done) | (simp; omega))), ?_⟩
        conv => lhs; whnf
        try rfl
      · exact fun _ => rfl
      simp only [List.nil_append, List.cons_append, Nat.reduceAdd]
      refine wpInv_det (by kernel_rfl) (by kernel_rfl) ?_
      apply Exists.intro
      refine ⟨?_, ?_, ?_⟩
      · intro U W hC hH
        have hc1 := (bcell hC).1
        have hf1 := (bcell hC).2
        simp only [HypsU, predsOf, Region.binds, List.filterMap_cons, List.filterMap_nil, if_true, List.nil_append, List.cons_append, List.getD_cons_zero, List.getD_cons_succ] at hH
        simp only [fillPuts, Act.put, List.setIfInBounds_toArray, List.set_cons_zero, List.set_cons_succ, Nat.reduceAdd]
        go_wp2_with fail
        refine ⟨rfl, rfl, by (repeat' (first | with_reducible (first | exact Below.refl _ _ | assumption | refine Below.alloc ?_ ?_ _ | refine below_grew ?_ ?_ _ | refine Below.setCell ?_ ?_ _ | refine Below.drew ?_ | refine below_drewN ?_ _) | omega | (simp; done) | (simp; omega))), ?_⟩
        conv => lhs; whnf
        try rfl
      · exact fun _ => rfl
      simp only [List.nil_append, List.cons_append, Nat.reduceAdd]
      refine wpInv_det (by kernel_rfl) (by kernel_rfl) ?_
      apply Exists.intro
      refine ⟨?_, ?_, ?_⟩
      · intro U W hC hH
        have hc1 := (bcell hC).1
        have hf1 := (bcell hC).2
        simp only [HypsU, predsOf, Region.binds, List.filterMap_cons, List.filterMap_nil, if_true, List.nil_append, List.cons_append, List.getD_cons_zero, List.getD_cons_succ] at hH
        simp only [fillPuts, Act.put, List.setIfInBounds_toArray, List.set_cons_zero, List.set_cons_succ, Nat.reduceAdd]
        go_wp2_with fail
        refine ⟨rfl, rfl, by (repeat' (first | with_reducible (first | exact Below.refl _ _ | assumption | refine Below.alloc ?_ ?_ _ | refine below_grew ?_ ?_ _ | refine Below.setCell ?_ ?_ _ | refine Below.drew ?_ | refine below_drewN ?_ _) | omega | (simp; done) | (simp; omega))), ?_⟩
        conv => lhs; whnf
        try rfl
      · exact fun _ => rfl
      simp only [List.nil_append, List.cons_append, Nat.reduceAdd]
      refine wpInv_det (by kernel_rfl) (by kernel_rfl) ?_
      apply Exists.intro
      refine ⟨?_, ?_, ?_⟩
      · intro U W hC hH
        have hc1 := (bcell hC).1
        have hf1 := (bcell hC).2
        simp only [HypsU, predsOf, Region.binds, List.filterMap_cons, List.filterMap_nil, if_true, List.nil_append, List.cons_append, List.getD_cons_zero, List.getD_cons_succ] at hH
        simp only [fillPuts, Act.put, List.setIfInBounds_toArray, List.set_cons_zero, List.set_cons_succ, Nat.reduceAdd]
        go_wp2_with fail
        refine ⟨rfl, rfl, by (repeat' (first | with_reducible (first | exact Below.refl _ _ | assumption | refine Below.alloc ?_ ?_ _ | refine below_grew ?_ ?_ _ | refine Below.setCell ?_ ?_ _ | refine Below.drew ?_ | refine below_drewN ?_ _) | omega | (simp; done) | (simp; omega))), ?_⟩
        conv => lhs; whnf
        try rfl
      · exact fun _ => rfl
      simp only [List.nil_append, List.cons_append, Nat.reduceAdd]
      refine wpInv_det (by kernel_rfl) (by kernel_rfl) ?_
      apply Exists.intro
      refine ⟨?_, ?_, ?_⟩
      · intro U W hC hH
        have hc1 := (bcell hC).1
        have hf1 := (bcell hC).2
        simp only [HypsU, predsOf, Region.binds, List.filterMap_cons, List.filterMap_nil, if_true, List.nil_append, List.cons_append, List.getD_cons_zero, List.getD_cons_succ] at hH
        simp only [fillPuts, Act.put, List.setIfInBounds_toArray, List.set_cons_zero, List.set_cons_succ, Nat.reduceAdd]
        go_wp2_with fail
        refine ⟨rfl, rfl, by (repeat' (first | with_reducible (first | exact Below.refl _ _ | assumption | refine Below.alloc ?_ ?_ _ | refine below_grew ?_ ?_ _ | refine Below.setCell ?_ ?_ _ | refine Below.drew ?_ | refine below_drewN ?_ _) | omega | (simp; done) | (simp; omega))), ?_⟩
        conv => lhs; whnf
        try rfl
      · exact fun _ => rfl
      simp only [List.nil_append, List.cons_append, Nat.reduceAdd]
      refine wpInv_det (by kernel_rfl) (by kernel_rfl) ?_
      apply Exists.intro
      refine ⟨?_, ?_, ?_⟩
      · intro U W hC hH
        have hc1 := (bcell hC).1
        have hf1 := (bcell hC).2
        simp only [HypsU, predsOf, Region.binds, List.filterMap_cons, List.filterMap_nil, if_true, List.nil_append, List.cons_append, List.getD_cons_zero, List.getD_cons_succ] at hH
        simp only [fillPuts, Act.put, List.setIfInBounds_toArray, List.set_cons_zero, List.set_cons_succ, Nat.reduceAdd]
        go_wp2_with fail
        refine ⟨rfl, rfl, by (repeat' (first | with_reducible (first | exact Below.refl _ _ | assumption | refine Below.alloc ?_ ?_ _ | refine below_grew ?_ ?_ _ | refine Below.setCell ?_ ?_ _ | refine Below.drew ?_ | refine below_drewN ?_ _) | omega | (simp; done) | (simp; omega))), ?_⟩
        conv => lhs; whnf
        try rfl
      · exact fun _ => rfl
      simp only [List.nil_append, List.cons_append, Nat.reduceAdd]
      refine wpInv_det (by kernel_rfl) (by kernel_rfl) ?_
      apply Exists.intro
      refine ⟨?_, ?_, ?_⟩
      · intro U W hC hH
        have hc1 := (bcell hC).1
        have hf1 := (bcell hC).2
        simp only [HypsU, predsOf, Region.binds, List.filterMap_cons, List.filterMap_nil, if_true, List.nil_append, List.cons_append, List.getD_cons_zero, List.getD_cons_succ] at hH
        simp only [fillPuts, Act.put, List.setIfInBounds_toArray, List.set_cons_zero, List.set_cons_succ, Nat.reduceAdd]
        go_wp2_with fail
        refine ⟨rfl, rfl, by (repeat' (first | with_reducible (first | exact Below.refl _ _ | assumption | refine Below.alloc ?_ ?_ _ | refine below_grew ?_ ?_ _ | refine Below.setCell ?_ ?_ _ | refine Below.drew ?_ | refine below_drewN ?_ _) | omega | (simp; done) | (simp; omega))), ?_⟩
        conv => lhs; whnf
        try rfl
      · exact fun _ => rfl
      simp only [List.nil_append, List.cons_append, Nat.reduceAdd]
      refine wpInv_det (by kernel_rfl) (by kernel_rfl) ?_
      apply Exists.intro
      refine ⟨?_, ?_, ?_⟩
      · intro U W hC hH
        have hc1 := (bcell hC).1
        have hf1 := (bcell hC).2
        simp only [HypsU, predsOf, Region.binds, List.filterMap_cons, List.filterMap_nil, if_true, List.nil_append, List.cons_append, List.getD_cons_zero, List.getD_cons_succ] at hH
        simp only [fillPuts, Act.put, List.setIfInBounds_toArray, List.set_cons_zero, List.set_cons_succ, Nat.reduceAdd]
        go_wp2_with fail
        refine ⟨rfl, rfl, by (repeat' (first | with_reducible (first | exact Below.refl _ _ | assumption | refine Below.alloc ?_ ?_ _ | refine below_grew ?_ ?_ _ | refine Below.setCell ?_ ?_ _ | refine Below.drew ?_ | refine below_drewN ?_ _) | omega | (simp; done) | (simp; omega))), ?_⟩
        conv => lhs; whnf
        try rfl
      · exact fun _ => rfl
      simp only [List.nil_append, List.cons_append, Nat.reduceAdd]
      refine wpInv_det (by kernel_rfl) (by kernel_rfl) ?_
      apply Exists.intro
      refine ⟨?_, ?_, ?_⟩
      · intro U W hC hH
        have hc1 := (bcell hC).1
        have hf1 := (bcell hC).2
        simp only [HypsU, predsOf, Region.binds, List.filterMap_cons, List.filterMap_nil, if_true, List.nil_append, List.cons_append, List.getD_cons_zero, List.getD_cons_succ] at hH
        simp only [fillPuts, Act.put, List.setIfInBounds_toArray, List.set_cons_zero, List.set_cons_succ, Nat.reduceAdd]
        go_wp2_with fail
        refine ⟨rfl, rfl, by (repeat' (first | with_reducible (first | exact Below.refl _ _ | assumption | refine Below.alloc ?_ ?_ _ | refine below_grew ?_ ?_ _ | refine Below.setCell ?_ ?_ _ | refine Below.drew ?_ | refine below_drewN ?_ _) | omega | (simp; done) | (simp; omega))), ?_⟩
        conv => lhs; whnf
        try rfl
      · exact fun _ => rfl
      simp only [List.nil_append, List.cons_append, Nat.reduceAdd]
      refine wpInv_det (by kernel_rfl) (by kernel_rfl) ?_
      apply Exists.intro
      refine ⟨?_, ?_, ?_⟩
      · intro U W hC hH
        have hc1 := (bcell hC).1
        have hf1 := (bcell hC).2
        simp only [HypsU, predsOf, Region.binds, List.filterMap_cons, List.filterMap_nil, if_true, List.nil_append, List.cons_append, List.getD_cons_zero, List.getD_cons_succ] at hH
        simp only [fillPuts, Act.put, List.setIfInBounds_toArray, List.set_cons_zero, List.set_cons_succ, Nat.reduceAdd]
        go_wp2_with fail
        refine ⟨rfl, rfl, by (repeat' (first | with_reducible (first | exact Below.refl _ _ | assumption | refine Below.alloc ?_ ?_ _ | refine below_grew ?_ ?_ _ | refine Below.setCell ?_ ?_ _ | refine Below.drew ?_ | refine below_drewN ?_ _) | omega | (simp; done) | (simp; omega))), ?_⟩
        conv => lhs; whnf
        try rfl
      · exact fun _ => rfl
      simp only [List.nil_append, List.cons_append, Nat.reduceAdd]
      refine wpInv_det (by kernel_rfl) (by kernel_rfl) ?_
      apply Exists.intro
      refine ⟨?_, ?_, ?_⟩
      · intro U W hC hH
        have hc1 := (bcell hC).1
        have hf1 := (bcell hC).2
        simp only [HypsU, predsOf, Region.binds, List.filterMap_cons, List.filterMap_nil, if_true, List.nil_append, List.cons_append, List.getD_cons_zero, List.getD_cons_succ] at hH
        simp only [fillPuts, Act.put, List.setIfInBounds_toArray, List.set_cons_zero, List.set_cons_succ, Nat.reduceAdd]
        go_wp2_with fail
        refine ⟨rfl, rfl, by (repeat' (first | with_reducible (first | exact Below.refl _ _ | assumption | refine Below.alloc ?_ ?_ _ | refine below_grew ?_ ?_ _ | refine Below.setCell ?_ ?_ _ | refine Below.drew ?_ | refine below_drewN ?_ _) | omega | (simp; done) | (simp; omega))), ?_⟩
        conv => lhs; whnf
        try rfl
      · exact fun _ => rfl
      simp only [List.nil_append, List.cons_append, Nat.reduceAdd]
      simp only [List.nil_append, List.cons_append, Nat.reduceAdd, fillPuts, Act.put, List.setIfInBounds_toArray, List.set_cons_zero, List.set_cons_succ]
      rintro U W hC ⟨h0, h1, h2, h3, h4, h5, h6, h7, h8, h9, h10, h11, h12, -⟩ -
      simp only [h0, h1, h2, h3, h4, h5, h6, h7, h8, h9, h10, h11, h12]
      have hRW := HR.out.keep0 hC
      have HRW := Lib.hid hRW
      have HCW := Lib.hid (HC.out.below hC)
      have d4 := hRW.c4
      have g4 := hRW.fz 4
      have dl := hRW.lt
      clear h0 h1 h2 h3 h4 h5 h6 h7 h8 h9 h10 h11 h12 hC hRW HR HC c4 c3 hl
      go_upto_region 8 with fail
      refine cut_world (fun W => RdAt c (cutS s f e t) W ∧ Chg [c.rb] w W) ⟨by rw [HCUT.out]; exact HRW.out.set4 (min v2 (R - 1)), HCW.out.setCell _ (by simp)⟩ ?_
      clear HRW HCW d4 g4 dl k0 k1 k2 k3 k4 m0 m1 m2 HCUT q1 q2 q5 q6 q7 q8 HVV HRR
      rintro V3 ⟨hR, hC⟩
      have HR := Lib.hid hR
      have HC := Lib.hid hC
      clear hR hC
      generalize cutS s f e t = S0 at *
      go_loopw [] (fun wr => ∃ S : RS, Reach c E S ∧ RdAt c S wr ∧ Chg [c.rb] w wr) (fun wr => rngAt c.rb wr)
      case atStart => exact ⟨S0, hRE.out, HR.out, HC.out⟩
      case round =>
        clear HR HC hRE
        obtain ⟨S, hre, hR, hC⟩ := hrel
        have HRE := Lib.hid hre
        have HR := Lib.hid hR
        have HC := Lib.hid hC
        have c3 := hR.c3
        have f3 := hR.fz 3
        have hl := hR.lt
        have hst := hre.taken
        obtain ⟨-, s0, s1, z0, z1⟩ := hre
        clear hR hC
        by_cases hrs : S.rng ≤ 65536
        · have HNX := Lib.hid (HRE.out.step HOKE.out HB.out hrs)
          have HNS := Lib.hid (show normS c S = { taken := S.taken + 1, raws := S.raws, rng := S.rng * 256, val := S.val * 256 + c.byte S.taken } by unfold normS; rw [if_pos hrs])
          have HRG := Lib.hid (rngAt_of HR.out)
          obtain ⟨x, hx⟩ : ∃ x, S.rng = x := ⟨_, rfl⟩
          rw [hx] at c3 s0 s1 z1 hrs HNS HRG
          go_upto_region 10 with fail
          refine cut_world (fun W => RdAt c { taken := S.taken, raws := S.raws, rng := x * 256, val := S.val } W ∧ Chg [c.rb] w W) ⟨HR.out.set3 (x * 256), HC.out.setCell _ (by simp)⟩ ?_
          clear HR HC c3 f3 hl
          rintro V4 ⟨hR, hC⟩
          have HR4 := Lib.hid hR
          have HC4 := Lib.hid hC
          have hbb := HB.out S.taken
          have hl := hR.lt
          clear hR hC
          have HNXT := Lib.hid (fun W hp => rdNext c { taken := S.taken, raws := S.raws, rng := x * 256, val := S.val } (by simp only; omega) W hp hn)
          have HF := Lib.hid (fun (b : Bool) W (hp : RdAt c { taken := if b = true then S.taken + 1 else S.taken, raws := S.raws, rng := x * 256, val := S.val } W) => (show W.cell? ⟨c.rb, 4, none⟩ = some (.int .u32 S.val) from hp.c4))
          have HPD := Lib.hid (fun (b : Bool) W W' (hb : Below W.heap.size W W') (hp : RdAt c { taken := if b = true then S.taken + 1 else S.taken, raws := S.raws, rng := x * 256, val := S.val } W) => hp.keep0 hb)
          obtain ⟨z, hz⟩ : ∃ z, c.byte S.taken = z := ⟨_, rfl⟩
          rw [hz] at hbb HNS
          have HZ := Lib.hid hz
          obtain ⟨b0, b1⟩ := hbb
          clear hz
          refine region_one [c.rb] 7 11 (fun b W => RdAt c { taken := if b = true then S.taken + 1 else S.taken, raws := S.raws, rng := x * 256, val := S.val } W) (by kernel_rfl) (by kernel_rfl) HR4.out (fun W h => h.keep0 (Below.refl _ _).drew) HPD.out ?_
          simp only [List.take_succ_cons, List.take_zero, List.drop_succ_cons, List.drop_zero]
          refine RI.wpInv_det (by kernel_rfl) (by kernel_rfl) ?_
          apply Exists.intro
          refine ⟨?_, ?_, ?_⟩
          · rintro D U W hDi ⟨hC, hP⟩ hH
            have hF := HF.out _ W hP
            simp only [HypsU, predsOf, Region.binds, List.filterMap_cons, List.filterMap_nil, if_true, List.nil_append, List.cons_append, List.getD_cons_zero, List.getD_cons_succ] at hH
            simp only [fillPuts, Act.put, List.setIfInBounds_toArray, List.set_cons_zero, List.set_cons_succ, Nat.reduceAdd]
            go_wp2_with fail
            refine ⟨rfl, rfl, (show Below W.heap.size W _ from by (repeat' (first | with_reducible (first | exact Below.refl _ _ | assumption | refine Below.alloc ?_ ?_ _ | refine below_grew ?_ ?_ _ | refine Below.setCell ?_ ?_ _ | refine Below.drew ?_ | refine below_drewN ?_ _) | omega | (simp; done) | (simp; omega)))), ?_⟩
            conv => lhs; whnf
            try rfl
          · exact fun _ => rfl
          simp only [List.nil_append, List.cons_append, Nat.reduceAdd]
          refine RI.wpInv_det (by kernel_rfl) (by kernel_rfl) ?_
          apply Exists.intro
          refine ⟨?_, ?_, ?_⟩
          · rintro D U W hDi ⟨hC, hP⟩ hH
            have hF := HF.out _ W hP
            simp only [HypsU, predsOf, Region.binds, List.filterMap_cons, List.filterMap_nil, if_true, List.nil_append, List.cons_append, List.getD_cons_zero, List.getD_cons_succ] at hH
            simp only [fillPuts, Act.put, List.setIfInBounds_toArray, List.set_cons_zero, List.set_cons_succ, Nat.reduceAdd]
            go_wp2_with fail
            refine ⟨rfl, rfl, (show Below W.heap.size W _ from by (repeat' (first | with_reducible (first | exact Below.refl _ _ | assumption | refine Below.alloc ?_ ?_ _ | refine below_grew ?_ ?_ _ | refine Below.setCell ?_ ?_ _ | refine Below.drew ?_ | refine below_drewN ?_ _) | omega | (simp; done) | (simp; omega)))), ?_⟩
            conv => lhs; whnf
            try rfl
          · exact fun _ => rfl
          simp only [List.nil_append, List.cons_append, Nat.reduceAdd]
          refine RI.wpInv_det (by kernel_rfl) (by kernel_rfl) ?_
          apply Exists.intro
          refine ⟨?_, ?_, ?_⟩
          · rintro D U W hDi ⟨hC, hP⟩ hH
            have hF := HF.out _ W hP
            simp only [HypsU, predsOf, Region.binds, List.filterMap_cons, List.filterMap_nil, if_true, List.nil_append, List.cons_append, List.getD_cons_zero, List.getD_cons_succ] at hH
            simp only [fillPuts, Act.put, List.setIfInBounds_toArray, List.set_cons_zero, List.set_cons_succ, Nat.reduceAdd]
            go_wp2_with fail
            refine ⟨rfl, rfl, (show Below W.heap.size W _ from by (repeat' (first | with_reducible (first | exact Below.refl _ _ | assumption | refine Below.alloc ?_ ?_ _ | refine below_grew ?_ ?_ _ | refine Below.setCell ?_ ?_ _ | refine Below.drew ?_ | refine below_drewN ?_ _) | omega | (simp; done) | (simp; omega)))), ?_⟩
            conv => lhs; whnf
            try rfl
          · exact fun _ => rfl
          simp only [List.nil_append, List.cons_append, Nat.reduceAdd]
          refine RI.wpInv_det (by kernel_rfl) (by kernel_rfl) ?_
          apply Exists.intro
          refine ⟨?_, ?_, ?_⟩
          · rintro D U W hDi ⟨hC, hP⟩ hH
            have hF := HF.out _ W hP
            simp only [HypsU, predsOf, Region.binds, List.filterMap_cons, List.filterMap_nil, if_true, List.nil_append, List.cons_append, List.getD_cons_zero, List.getD_cons_succ] at hH
            simp only [fillPuts, Act.put, List.setIfInBounds_toArray, List.set_cons_zero, List.set_cons_succ, Nat.reduceAdd]
            go_wp2_with fail
            refine ⟨rfl, rfl, (show Below W.heap.size W _ from by (repeat' (first | with_reducible (first | exact Below.refl _ _ | assumption | refine Below.alloc ?_ ?_ _ | refine below_grew ?_ ?_ _ | refine Below.setCell ?_ ?_ _ | refine Below.drew ?_ | refine below_drewN ?_ _) | omega | (simp; done) | (simp; omega)))), ?_⟩
            conv => lhs; whnf
            try rfl
          · exact fun _ => rfl
          simp only [List.nil_append, List.cons_append, Nat.reduceAdd]
          refine RI.wpInv_det (by kernel_rfl) (by kernel_rfl) ?_
          apply Exists.intro
          refine ⟨?_, ?_, ?_⟩
          · rintro D U W hDi ⟨hC, hP⟩ hH
            have hF := HF.out _ W hP
            simp only [HypsU, predsOf, Region.binds, List.filterMap_cons, List.filterMap_nil, if_true, List.nil_append, List.cons_append, List.getD_cons_zero, List.getD_cons_succ] at hH
            simp only [fillPuts, Act.put, List.setIfInBounds_toArray, List.set_cons_zero, List.set_cons_succ, Nat.reduceAdd]
            go_wp2_with fail
            refine ⟨rfl, rfl, (show Below W.heap.size W _ from by (repeat' (first | with_reducible (first | exact Below.refl _ _ | assumption | refine Below.alloc ?_ ?_ _ | refine below_grew ?_ ?_ _ | refine Below.setCell ?_ ?_ _ | refine Below.drew ?_ | refine below_drewN ?_ _) | omega | (simp; done) | (simp; omega)))), ?_⟩
            conv => lhs; whnf
            try rfl
          · exact fun _ => rfl
          simp only [List.nil_append, List.cons_append, Nat.reduceAdd]
          refine RI.wpInv_det (by kernel_rfl) (by kernel_rfl) ?_
          apply Exists.intro
          refine ⟨?_, ?_, ?_⟩
          · rintro D U W hDi ⟨hC, hP⟩ hH
            have hF := HF.out _ W hP
            simp only [HypsU, predsOf, Region.binds, List.filterMap_cons, List.filterMap_nil, if_true, List.nil_append, List.cons_append, List.getD_cons_zero, List.getD_cons_succ] at hH
            simp only [fillPuts, Act.put, List.setIfInBounds_toArray, List.set_cons_zero, List.set_cons_succ, Nat.reduceAdd]
            (try simp only [hH]); go_wp2_with fail
            refine ⟨rfl, rfl, (show Below W.heap.size W _ from by (repeat' (first | with_reducible (first | exact Below.refl _ _ | assumption | refine Below.alloc ?_ ?_ _ | refine below_grew ?_ ?_ _ | refine Below.setCell ?_ ?_ _ | refine Below.drew ?_ | refine below_drewN ?_ _) | omega | (simp; done) | (simp; omega)))), ?_⟩
            conv => lhs; whnf
            try rfl
          · exact fun _ => rfl
          simp only [List.nil_append, List.cons_append, Nat.reduceAdd]
          refine RI.wpInv_det (by kernel_rfl) (by kernel_rfl) ?_
          apply Exists.intro
          refine ⟨?_, ?_, ?_⟩
          · rintro D U W hDi ⟨hC, hP⟩ hH
            have hF := HF.out _ W hP
            simp only [HypsU, predsOf, Region.binds, List.filterMap_cons, List.filterMap_nil, if_true, List.nil_append, List.cons_append, List.getD_cons_zero, List.getD_cons_succ] at hH
            simp only [fillPuts, Act.put, List.setIfInBounds_toArray, List.set_cons_zero, List.set_cons_succ, Nat.reduceAdd]
            go_wp2_with fail
            refine ⟨rfl, rfl, (show Below W.heap.size W _ from by (repeat' (first | with_reducible (first | exact Below.refl _ _ | assumption | refine Below.alloc ?_ ?_ _ | refine below_grew ?_ ?_ _ | refine Below.setCell ?_ ?_ _ | refine Below.drew ?_ | refine below_drewN ?_ _) | omega | (simp; done) | (simp; omega)))), ?_⟩
            conv => lhs; whnf
            try rfl
          · exact fun _ => rfl
          simp only [List.nil_append, List.cons_append, Nat.reduceAdd]
          refine RI.wpInv_det (by kernel_rfl) (by kernel_rfl) ?_
          apply Exists.intro
          refine ⟨?_, ?_, ?_⟩
          · rintro D U W hDi ⟨hC, hP⟩ hH
            rw [hDi] at hP
            simp only [HypsU, predsOf, Region.binds, List.filterMap_cons, List.filterMap_nil, if_true, List.nil_append, List.cons_append, List.getD_cons_zero, List.getD_cons_succ] at hH
            simp only [fillPuts, Act.put, List.setIfInBounds_toArray, List.set_cons_zero, List.set_cons_succ, Nat.reduceAdd]
            (try simp only [hH]); go_wp2_with fail; refine (HNXT.out W hP).mono ?_; rintro e2 w' ⟨rfl, hp1, hg1⟩; rw [HZ.out]; go_wp2_with fail
            refine ⟨rfl, rfl, (show Chg _ _ _ ∧ _ from ⟨hg1, hp1⟩), ?_⟩
            conv => lhs; whnf
            try rfl
          · exact fun _ => rfl
          simp only [List.nil_append, List.cons_append, Nat.reduceAdd]
          refine RI.wpInv_det (by kernel_rfl) (by kernel_rfl) ?_
          apply Exists.intro
          refine ⟨?_, ?_, ?_⟩
          · rintro D U W hDi ⟨hC, hP⟩ hH
            have hF := HF.out _ W hP
            simp only [HypsU, predsOf, Region.binds, List.filterMap_cons, List.filterMap_nil, if_true, List.nil_append, List.cons_append, List.getD_cons_zero, List.getD_cons_succ] at hH
            simp only [fillPuts, Act.put, List.setIfInBounds_toArray, List.set_cons_zero, List.set_cons_succ, Nat.reduceAdd]
            (try simp only [hH]); go_wp2_with fail
            refine ⟨rfl, rfl, (show Below W.heap.size W _ from by (repeat' (first | with_reducible (first | exact Below.refl _ _ | assumption | refine Below.alloc ?_ ?_ _ | refine below_grew ?_ ?_ _ | refine Below.setCell ?_ ?_ _ | refine Below.drew ?_ | refine below_drewN ?_ _) | omega | (simp; done) | (simp; omega)))), ?_⟩
            conv => lhs; whnf
            try rfl
          · exact fun _ => rfl
          simp only [List.nil_append, List.cons_append, Nat.reduceAdd]
          refine RI.wpInv_det (by kernel_rfl) (by kernel_rfl) ?_
          apply Exists.intro
          refine ⟨?_, ?_, ?_⟩
          · rintro D U W hDi ⟨hC, hP⟩ hH
            have hF := HF.out _ W hP
            simp only [HypsU, predsOf, Region.binds, List.filterMap_cons, List.filterMap_nil, if_true, List.nil_append, List.cons_append, List.getD_cons_zero, List.getD_cons_succ] at hH
            simp only [fillPuts, Act.put, List.setIfInBounds_toArray, List.set_cons_zero, List.set_cons_succ, Nat.reduceAdd]
            go_wp2_with fail
            refine ⟨rfl, rfl, (show Below W.heap.size W _ from by (repeat' (first | with_reducible (first | exact Below.refl _ _ | assumption | refine Below.alloc ?_ ?_ _ | refine below_grew ?_ ?_ _ | refine Below.setCell ?_ ?_ _ | refine Below.drew ?_ | refine below_drewN ?_ _) | omega | (simp; done) | (simp; omega)))), ?_⟩
            conv => lhs; whnf
            try rfl
          · exact fun _ => rfl
          simp only [List.nil_append, List.cons_append, Nat.reduceAdd]
          refine RI.wpInv_det (by kernel_rfl) (by kernel_rfl) ?_
          apply Exists.intro
          refine ⟨?_, ?_, ?_⟩
          · rintro D U W hDi ⟨hC, hP⟩ hH
            have hF := HF.out _ W hP
            simp only [HypsU, predsOf, Region.binds, List.filterMap_cons, List.filterMap_nil, if_true, List.nil_append, List.cons_append, List.getD_cons_zero, List.getD_cons_succ] at hH
            simp only [fillPuts, Act.put, List.setIfInBounds_toArray, List.set_cons_zero, List.set_cons_succ, Nat.reduceAdd]
            go_wp2_with fail
            refine ⟨rfl, rfl, (show Below W.heap.size W _ from by (repeat' (first | with_reducible (first | exact Below.refl _ _ | assumption | refine Below.alloc ?_ ?_ _ | refine below_grew ?_ ?_ _ | refine Below.setCell ?_ ?_ _ | refine Below.drew ?_ | refine below_drewN ?_ _) | omega | (simp; done) | (simp; omega)))), ?_⟩
            conv => lhs; whnf
            try rfl
          · exact fun _ => rfl
          simp only [List.nil_append, List.cons_append, Nat.reduceAdd]
          simp only [List.nil_append, List.cons_append, Nat.reduceAdd, fillPuts, Act.put, List.setIfInBounds_toArray, List.set_cons_zero, List.set_cons_succ]
          rintro D U W hD ⟨hC, hP⟩ ⟨h0, h1, h2, h3, h4, h5, h6, h7, h8, h9, h10, -⟩ -
          rw [hD 7 (by omega)] at hP
          simp only [h0, h1, h2, h3, h4, h5, h6, h7, h8, h9, h10]
          have hP2 : RdAt c { taken := S.taken + 1, raws := S.raws, rng := x * 256, val := S.val } W := hP
          rw [or_byte S.val z z0 b0 b1 (by omega)]
          have HPW := Lib.hid hP2
          have HCW := Lib.hid (HC4.out.trans hC)
          have d4 := hP2.c4
          have g4 := hP2.fz 4
          have dl := hP2.lt
          have hmz : rngAt c.rb (W.setCell ⟨c.rb, 4, none⟩ (.int .u32 (S.val * 256 + z))) < rngAt c.rb wr := by
            rw [rngAt_of (hP2.set4 (S.val * 256 + z)), HRG.out]
            simp only
            omega
          have HMZ := Lib.hid hmz
          clear h0 h1 h2 h3 h4 h5 h6 h7 h8 h9 h10 hC hP hP2 HR4 HC4 HNXT HF HPD hl hmz
          go_wp2_with fail
          go_roundw
          case rel => exact ⟨normS c S, HNX.out, by rw [HNS.out]; exact HPW.out.set4 (S.val * 256 + z), HCW.out.setCell _ (by simp)⟩
          case measure => exact HMZ.out
        · have hse := HRE.out.done (by omega)
          have hrs' : 65536 < S.rng := by omega
          subst hse
          go_wp2_with fail
          go_end0
          exact ⟨rfl, HR.out, HC.out⟩
  · have HT := Lib.hid (show takeF c s f e t = s by unfold takeF; rw [if_neg hin])
    rw [HT.out]
    clear h hb hok
    by_cases h1 : 1 ≤ t ∧ t ≤ 4096
    · rw [decide_eq_true h1] at hri
      by_cases h2 : f < 0
      · clear h1 hin
        go_enter Tryd.func140, Tryd.ntmps140
        go_wp2_with fail
        refine (hri.out _).mono ?_
        rintro e1 w1 ⟨rfl, hb1⟩
        go_wp2_with fail
        refine bodyPost_ret (v := .tuple #[]) (results_none rfl _ _ _) rfl ⟨rfl, H.out.keep0 hb1, Chg.of_below hb1⟩
      · by_cases h3 : e ≤ f
        · clear h1 hin
          go_enter Tryd.func140, Tryd.ntmps140
          go_wp2_with fail
          refine (hri.out _).mono ?_
          rintro e1 w1 ⟨rfl, hb1⟩
          go_wp2_with fail
          refine bodyPost_ret (v := .tuple #[]) (results_none rfl _ _ _) rfl ⟨rfl, H.out.keep0 hb1, Chg.of_below hb1⟩
        · have h4 : t < e := by omega
          clear h1 hin
          go_enter Tryd.func140, Tryd.ntmps140
          go_wp2_with fail
          refine (hri.out _).mono ?_
          rintro e1 w1 ⟨rfl, hb1⟩
          go_wp2_with fail
          refine bodyPost_ret (v := .tuple #[]) (results_none rfl _ _ _) rfl ⟨rfl, H.out.keep0 hb1, Chg.of_below hb1⟩
    · rw [decide_eq_false h1] at hri
      clear h1 hin
      go_enter Tryd.func140, Tryd.ntmps140
      go_wp2_with fail
      refine (hri.out _).mono ?_
      rintro e1 w1 ⟨rfl, hb1⟩
      go_wp2_with fail
      refine bodyPost_ret (v := .tuple #[]) (results_none rfl _ _ _) rfl ⟨rfl, H.out.keep0 hb1, Chg.of_below hb1⟩
end Go.Proofs.YtbcdnbbpkikppaaDoor
end

section
namespace Go.Proofs.YtbcdnbbpkikppaaDoor
open Go.RowKit Go.BigFrame Go.Proofs.YtbcdnbbpkikppaaDoorW.PrintWords
set_option linter.unusedSimpArgs false
set_option linter.unusedVariables false
abbrev TBy := 22
/-- Bytes, where they lie. -/
def BytesAt (A : Option Addr) (n : Nat) (b : Nat → Int) (w : World) : Prop := 0 < n → ∃ g off, A = some ⟨g, off, none⟩ ∧ g < w.heap.size ∧ ∀ i, i < n → w.cell? ⟨g, off + i, none⟩ = some (.int .u8 (b i)) ∧ 0 ≤ b i ∧ b i ≤ 255
theorem BytesAt.keep {A n b} {w w' : World} (h : BytesAt A n b w) (hb : Below w.heap.size w w') : BytesAt A n b w' := fun hn => by
  obtain ⟨g, off, h1, h2, h3⟩ := h hn
  exact ⟨g, off, h1, Nat.lt_of_lt_of_le h2 hb.size, fun i hi => ⟨(hb.cell (p := ⟨g, off + i, none⟩) h2).trans (h3 i hi).1, (h3 i hi).2⟩⟩
theorem empty_row (Z : World) (e : TypeId) (size : Nat) : (Z.alloc (.cells #[] e)).ownsRow Z.heap.size e size (.slice (some ⟨Z.heap.size, 0, none⟩) 0 0) 0 [] :=
  ⟨by simp, .inr ⟨Z.heap.size, 0, #[], rfl, Nat.le_refl _, alloc_at _ _, Nat.le_refl _, Nat.zero_le _, by simp, by simp⟩⟩
theorem byteInfo : (Tryd.prog.info? 5).map (fun i => (i.zero, i.size, i.bytes)) = some (some (.int .u8 0), 1, 1) := by kernel_rfl
def byteL (b : Nat → Int) (n : Nat) : List Value := (List.range n).map fun i => .int .u8 (b i)
theorem byteL_at (b : Nat → Int) (n j : Nat) (hj : j < n) : (byteL b n)[j]? = some (.int .u8 (b j)) := by simp [byteL, hj]
set_option maxHeartbeats 2000000 in
set_option maxRecDepth 100000 in
theorem cloneBytes (A : Option Addr) (n cap : Nat) (b : Nat → Int) (hn : n ≤ 1000000) (w : World) (h : BytesAt A n b w) (hA : A = none → n = 0 ∧ cap = 0) :
    Calls Tryd.prog 43 #[.slice A n cap] w fun e w' => ∃ A' cap', e = .returned (.slice A' n cap') ∧ (0 < n → ∃ g, A' = some ⟨g, 0, none⟩ ∧ w.heap.size ≤ g ∧ g < w'.heap.size ∧ ∀ i, i < n → w'.cell? ⟨g, i, none⟩ = some (.int .u8 (b i)) ∧ 0 ≤ b i ∧ b i ≤ 255) ∧ Below w.heap.size w w' := by
  have H := Lib.hid h
  clear h
  cases A with
  | none =>
    obtain ⟨rfl, rfl⟩ := hA rfl
    have hq := fun w => Lib.run_eql_slice_nil (P := Tryd.prog) w TBy 5 none 0 0 0 0 Tryd.underlying22
    go_enter Tryd.func43, Tryd.ntmps43
    go_wp2_with fail
    go_ret
    refine ⟨?_, by (repeat' (first | with_reducible (first | exact Below.refl _ _ | assumption | refine Below.alloc ?_ ?_ _ | refine below_grew ?_ ?_ _ | refine Below.setCell ?_ ?_ _ | refine Below.drew ?_ | refine below_drewN ?_ _) | omega | (simp; done) | (simp; omega)))⟩
    exact ⟨none, 0, rfl⟩
  | some ad =>
    clear hA
    obtain ⟨i0, hi0, hz0, hz1, hz2⟩ := info_parts byteInfo
    have HI0 := Lib.hid hi0
    have HZ0 := Lib.hid hz0
    have HZ1 := Lib.hid hz1
    have HZ2 := Lib.hid hz2
    have HNW := Lib.hid (show ∀ j u, (byteL b n)[j]? = some u → (w.alloc (.cells #[] 5)).cell? (ad.add j) = some u from fun j u hj => by
      have hjn : j < n := by have := (List.getElem?_eq_some_iff.1 hj).1; simpa [byteL] using this
      rw [byteL_at b n j hjn] at hj
      obtain ⟨g, off, hg, hgl, hc⟩ := H.out (by omega)
      simp only [Option.some.injEq] at hg
      subst hg
      rw [Addr.add_lit]
      have e1 : (w.alloc (.cells #[] 5)).cell? ⟨g, off + j, none⟩ = w.cell? ⟨g, off + j, none⟩ := by unfold World.cell?; rw [alloc_old _ _ _ hgl]
      rw [e1, (hc j hjn).1]
      exact hj)
    clear hi0 hz0 hz1 hz2
    have hq := fun w => Lib.run_eql_slice_nil (P := Tryd.prog) w TBy 5 (some ad) n cap 0 0 Tryd.underlying22
    go_enter Tryd.func43, Tryd.ntmps43
    go_wp2_with (at_builtin; refine wpList_append_own_at (w := w.alloc (.cells #[] 5)) rfl _ _ TBy rfl w.heap.size 5 i0 (.int .u8 0) 1 1 Tryd.underlying22 HI0.out HZ0.out HZ1.out HZ2.out rfl (by decide) (.slice (some ⟨w.heap.size, 0, none⟩) 0 0) 0 [] rfl ?hown ad n cap (byteL b n) rfl ?hl ?hnews ?h1 ?h63 ?hby ?hba ?_; (case hown => exact empty_row _ _ _); (case hl => simp [byteL]); (case hnews => exact HNW.out); (case h1 => exact fun u hu => by (obtain ⟨i, -, rfl⟩ := List.mem_map.1 hu; rfl)); (case h63 => exact maxLen_le (by omega)); (case hby => omega); (case hba => simp); intro v' w2 hown2 hgr2 hni hat; clear hni hat)
    rw [List.nil_append, Nat.zero_add] at hown2
    have hb2 : Below w.heap.size w w2 := ⟨hgr2.os, hgr2.tape, hgr2.output, Nat.le_trans (by simp) hgr2.size, fun i hi => (hgr2.block i (by simp; omega) (fun e => by simp [Value.ownBlock] at e; omega)).trans (alloc_old _ _ _ hi)⟩
    obtain ⟨A', c', rfl⟩ := own_slice' hown2
    have HR := Lib.hid (show 0 < n → ∃ g, A' = some ⟨g, 0, none⟩ ∧ w.heap.size ≤ g ∧ g < w2.heap.size ∧ ∀ i, i < n → w2.cell? ⟨g, i, none⟩ = some (.int .u8 (b i)) ∧ 0 ≤ b i ∧ b i ≤ 255 from fun hp => by
      obtain ⟨g, c, hv, hg, hgl⟩ := own_form hown2 hp
      simp only [Value.slice.injEq] at hv
      obtain ⟨rfl, -, rfl⟩ := hv
      obtain ⟨g0, off, -, -, hc⟩ := H.out hp
      refine ⟨g, rfl, hg, hgl, fun i hi => ⟨?_, (hc i hi).2⟩⟩
      have := hown2.cells (g := g) rfl i (.int .u8 (b i)) (by rw [byteL_at b n i hi])
      rw [Addr.add_lit, Nat.zero_add] at this
      exact this)
    have HB := Lib.hid hb2
    clear hown2 hb2 hgr2
    go_wp2_with fail
    go_ret
    exact ⟨A', c', rfl, HR.out, HB.out⟩
/-- The first bytes, as a number. -/
def valTo (c : RC) : Nat → Int
  | 0 => 0
  | k + 1 => valTo c k * 256 + c.byte k
theorem valTo_bd (c : RC) (hb : ∀ i, 0 ≤ c.byte i ∧ c.byte i ≤ 255) (k : Nat) (hk : k ≤ 3) : 0 ≤ valTo c k ∧ valTo c k ≤ 16777215 ∧ (k ≤ 2 → valTo c k ≤ 65535) := by
  have h0 := hb 0
  have h1 := hb 1
  have h2 := hb 2
  rcases (show k = 0 ∨ k = 1 ∨ k = 2 ∨ k = 3 by omega) with rfl | rfl | rfl | rfl <;> simp only [valTo] <;> omega
def startS (c : RC) : RS := { taken := 3, raws := 0, rng := 16777216, val := valTo c 3 }
set_option maxHeartbeats 4000000 in
set_option maxRecDepth 100000 in
theorem rdNew (A : Option Addr) (n cap : Nat) (b : Nat → Int) (hn : n ≤ 1000000) (w : World) (h : BytesAt A n b w) (hA : A = none → n = 0 ∧ cap = 0) :
    Calls Tryd.prog 19 #[.slice A n cap] w fun e w' => ∃ c : RC, e = .returned (.pointer (some ⟨c.rb, 0, none⟩)) ∧ c.n = n ∧ c.b = b ∧ w.heap.size ≤ c.rb ∧ (0 < n → w.heap.size ≤ c.g) ∧ RdAt c (startS c) w' ∧ Below w.heap.size w w' := by
  have hcl := Lib.hid (cloneBytes A n cap b hn w h hA)
  clear h hA
  go_enter Tryd.func19, Tryd.ntmps19
  go_wp2_with fail
  refine hcl.out.mono ?_
  rintro e w1 ⟨A', cap', rfl, hg, hb1⟩
  obtain ⟨g, hgg⟩ : ∃ g, 0 < n → A' = some ⟨g, 0, none⟩ ∧ w.heap.size ≤ g ∧ g < w1.heap.size ∧ ∀ i, i < n → w1.cell? ⟨g, i, none⟩ = some (.int .u8 (b i)) ∧ 0 ≤ b i ∧ b i ≤ 255 := by
    by_cases hp : 0 < n
    · obtain ⟨g, h1⟩ := hg hp
      exact ⟨g, fun _ => h1⟩
    · exact ⟨0, fun h => absurd h hp⟩
  have HG := Lib.hid hgg
  have HB1 := Lib.hid hb1
  have hs := hb1.size
  clear hg hgg hb1 hcl
  go_upto_region 3 with fail
  obtain ⟨c, hc⟩ : ∃ c : RC, c = { rb := w1.heap.size, g := g, A := A', cap := cap', n := n, b := b } := ⟨_, rfl⟩
  have hcr : w1.heap.size = c.rb := by rw [hc]
  have HC := Lib.hid hc
  refine cut_world (fun W => RdAt c { taken := 0, raws := 0, rng := 16777216, val := 0 } W ∧ Below w.heap.size w W) ⟨?_, HB1.out.trans (Below.mono (B := w1.heap.size) (by (repeat' (first | with_reducible (first | exact Below.refl _ _ | assumption | refine Below.alloc ?_ ?_ _ | refine below_grew ?_ ?_ _ | refine Below.setCell ?_ ?_ _ | refine Below.drew ?_ | refine below_drewN ?_ _) | omega | (simp; done) | (simp; omega)))) hs)⟩ ?_
  · rw [HC.out]
    refine ⟨alloc_at _ _, fun hp => ?_, fun i hi => ?_⟩
    · obtain ⟨h1, h2, h3, h4⟩ := HG.out hp
      exact ⟨h1, by simp; omega, by simp only; omega⟩
    · obtain ⟨h1, h2, h3, h4⟩ := HG.out (by simp only at hi; omega)
      obtain ⟨h5, h6⟩ := h4 i hi
      refine ⟨?_, h6⟩
      have : ∀ o, (w1.alloc o).cell? ⟨g, i, none⟩ = w1.cell? ⟨g, i, none⟩ := fun o => by unfold World.cell?; rw [alloc_old _ _ _ h3]
      exact (this _).trans h5
  rintro V ⟨hR, hB⟩
  have hcn : c.n = n := by rw [HC.out]
  have hcb : c.b = b := by rw [HC.out]
  have hcg : 0 < n → w.heap.size ≤ c.g := fun hp => by rw [HC.out]; exact (HG.out hp).2.1
  have hcs : w.heap.size ≤ c.rb := by omega
  have HV := Lib.hid hR
  have HBV := Lib.hid hB
  have HFIN := Lib.hid (show c.n = n ∧ c.b = b ∧ w.heap.size ≤ c.rb ∧ (0 < n → w.heap.size ≤ c.g) from ⟨hcn, hcb, hcs, hcg⟩)
  have HBY := Lib.hid (fun i => RC.byte_bd hR i)
  have hn2 : c.n ≤ 1000000 := by omega
  simp only [hcr]
  clear hR hB hc HC HG HB1 hcn hcb hcg hcr hs
  go_loopw [8] (fun cnt wr => ∃ k : Nat, k ≤ 3 ∧ cnt = .int .i64 k ∧ RdAt c { taken := k, raws := 0, rng := 16777216, val := valTo c k } wr ∧ Below w.heap.size w wr) (fun cnt _ => 3 - (intOf cnt).toNat)
  case atStart => exact ⟨0, by omega, rfl, HV.out, HBV.out⟩
  case round =>
    clear HV HBV
    obtain ⟨k, hk, rfl, hR, hB⟩ := hrel
    have hk0 : (0 : Int) ≤ k := by omega
    by_cases hlt : k < 3
    · have hlt' : (k : Int) < 3 := by omega
      have HR4 := Lib.hid hR
      have HC4 := Lib.hid hB
      have hbb := HBY.out k
      obtain ⟨y0, y1, y2⟩ := valTo_bd c HBY.out k (by omega)
      have y3 := y2 (by omega)
      have hl := hR.lt
      clear hR hB y2
      have HNXT := Lib.hid (fun W hp => rdNext c { taken := k, raws := 0, rng := 16777216, val := valTo c k } (by simp only; omega) W hp hn2)
      have HF := Lib.hid (fun (b : Bool) W (hp : RdAt c { taken := if b = true then k + 1 else k, raws := 0, rng := 16777216, val := valTo c k } W) => (show W.cell? ⟨c.rb, 4, none⟩ = some (.int .u32 (valTo c k)) from hp.c4))
      have HPD := Lib.hid (fun (b : Bool) W W' (hb : Below W.heap.size W W') (hp : RdAt c { taken := if b = true then k + 1 else k, raws := 0, rng := 16777216, val := valTo c k } W) => hp.keep0 hb)
      have HNS := Lib.hid (show valTo c (k + 1) = valTo c k * 256 + c.byte k from rfl)
      obtain ⟨z, hz⟩ : ∃ z, c.byte k = z := ⟨_, rfl⟩
      rw [hz] at hbb HNS
      have HZ := Lib.hid hz
      obtain ⟨b0, b1⟩ := hbb
      clear hz
      obtain ⟨y, hy⟩ : ∃ y, valTo c k = y := ⟨_, rfl⟩
      rw [hy] at HR4 HNXT HF HPD HNS y0 y1 y3
      clear hy
      go_upto_region 4 with fail
      refine region_one [c.rb] 7 11 (fun b W => RdAt c { taken := if b = true then k + 1 else k, raws := 0, rng := 16777216, val := y } W) (by kernel_rfl) (by kernel_rfl) HR4.out (fun W h => h.keep0 (Below.refl _ _).drew) HPD.out ?_
      simp only [List.take_succ_cons, List.take_zero, List.drop_succ_cons, List.drop_zero]
      refine RI.wpInv_det (by kernel_rfl) (by kernel_rfl) ?_
      apply Exists.intro
      refine ⟨?_, ?_, ?_⟩
      · rintro D U W hDi ⟨hC, hP⟩ hH
        have hF := HF.out _ W hP
        simp only [HypsU, predsOf, Region.binds, List.filterMap_cons, List.filterMap_nil, if_true, List.nil_append, List.cons_append, List.getD_cons_zero, List.getD_cons_succ] at hH
        simp only [fillPuts, Act.put, List.setIfInBounds_toArray, List.set_cons_zero, List.set_cons_succ, Nat.reduceAdd]
        go_wp2_with fail
        refine ⟨rfl, rfl, (show Below W.heap.size W _ from by (repeat' (first | with_reducible (first | exact Below.refl _ _ | assumption | refine Below.alloc ?_ ?_ _ | refine below_grew ?_ ?_ _ | refine Below.setCell ?_ ?_ _ | refine Below.drew ?_ | refine below_drewN ?_ _) | omega | (simp; done) | (simp; omega)))), ?_⟩
        conv => lhs; whnf
        try rfl
      · exact fun _ => rfl
      simp only [List.nil_append, List.cons_append, Nat.reduceAdd]
      refine RI.wpInv_det (by kernel_rfl) (by kernel_rfl) ?_
      apply Exists.intro
      refine ⟨?_, ?_, ?_⟩
      · rintro D U W hDi ⟨hC, hP⟩ hH
        have hF := HF.out _ W hP
        simp only [HypsU, predsOf, Region.binds, List.filterMap_cons, List.filterMap_nil, if_true, List.nil_append, List.cons_append, List.getD_cons_zero, List.getD_cons_succ] at hH
        simp only [fillPuts, Act.put, List.setIfInBounds_toArray, List.set_cons_zero, List.set_cons_succ, Nat.reduceAdd]
        go_wp2_with fail
        refine ⟨rfl, rfl, (show Below W.heap.size W _ from by (repeat' (first | with_reducible (first | exact Below.refl _ _ | assumption | refine Below.alloc ?_ ?_ _ | refine below_grew ?_ ?_ _ | refine Below.setCell ?_ ?_ _ | refine Below.drew ?_ | refine below_drewN ?_ _) | omega | (simp; done) | (simp; omega)))), ?_⟩
        conv => lhs; whnf
        try rfl
      · exact fun _ => rfl
      simp only [List.nil_append, List.cons_append, Nat.reduceAdd]
      refine RI.wpInv_det (by kernel_rfl) (by kernel_rfl) ?_
      apply Exists.intro
      refine ⟨?_, ?_, ?_⟩
      · rintro D U W hDi ⟨hC, hP⟩ hH
        have hF := HF.out _ W hP
        simp only [HypsU, predsOf, Region.binds, List.filterMap_cons, List.filterMap_nil, if_true, List.nil_append, List.cons_append, List.getD_cons_zero, List.getD_cons_succ] at hH
        simp only [fillPuts, Act.put, List.setIfInBounds_toArray, List.set_cons_zero, List.set_cons_succ, Nat.reduceAdd]
        go_wp2_with fail
        refine ⟨rfl, rfl, (show Below W.heap.size W _ from by (repeat' (first | with_reducible (first | exact Below.refl _ _ | assumption | refine Below.alloc ?_ ?_ _ | refine below_grew ?_ ?_ _ | refine Below.setCell ?_ ?_ _ | refine Below.drew ?_ | refine below_drewN ?_ _) | omega | (simp; done) | (simp; omega)))), ?_⟩
        conv => lhs; whnf
        try rfl
      · exact fun _ => rfl
      simp only [List.nil_append, List.cons_append, Nat.reduceAdd]
      refine RI.wpInv_det (by kernel_rfl) (by kernel_rfl) ?_
      apply Exists.intro
      refine ⟨?_, ?_, ?_⟩
      · rintro D U W hDi ⟨hC, hP⟩ hH
        have hF := HF.out _ W hP
        simp only [HypsU, predsOf, Region.binds, List.filterMap_cons, List.filterMap_nil, if_true, List.nil_append, List.cons_append, List.getD_cons_zero, List.getD_cons_succ] at hH
        simp only [fillPuts, Act.put, List.setIfInBounds_toArray, List.set_cons_zero, List.set_cons_succ, Nat.reduceAdd]
        go_wp2_with fail
        refine ⟨rfl, rfl, (show Below W.heap.size W _ from by (repeat' (first | with_reducible (first | exact Below.refl _ _ | assumption | refine Below.alloc ?_ ?_ _ | refine below_grew ?_ ?_ _ | refine Below.setCell ?_ ?_ _ | refine Below.drew ?_ | refine below_drewN ?_ _) | omega | (simp; done) | (simp; omega)))), ?_⟩
        conv => lhs; whnf
        try rfl
      · exact fun _ => rfl
      simp only [List.nil_append, List.cons_append, Nat.reduceAdd]
      refine RI.wpInv_det (by kernel_rfl) (by kernel_rfl) ?_
      apply Exists.intro
      refine ⟨?_, ?_, ?_⟩
      · rintro D U W hDi ⟨hC, hP⟩ hH
        have hF := HF.out _ W hP
        simp only [HypsU, predsOf, Region.binds, List.filterMap_cons, List.filterMap_nil, if_true, List.nil_append, List.cons_append, List.getD_cons_zero, List.getD_cons_succ] at hH
        simp only [fillPuts, Act.put, List.setIfInBounds_toArray, List.set_cons_zero, List.set_cons_succ, Nat.reduceAdd]
        go_wp2_with fail
        refine ⟨rfl, rfl, (show Below W.heap.size W _ from by (repeat' (first | with_reducible (first | exact Below.refl _ _ | assumption | refine Below.alloc ?_ ?_ _ | refine below_grew ?_ ?_ _ | refine Below.setCell ?_ ?_ _ | refine Below.drew ?_ | refine below_drewN ?_ _) | omega | (simp; done) | (simp; omega)))), ?_⟩
        conv => lhs; whnf
        try rfl
      · exact fun _ => rfl
      simp only [List.nil_append, List.cons_append, Nat.reduceAdd]
      refine RI.wpInv_det (by kernel_rfl) (by kernel_rfl) ?_
      apply Exists.intro
      refine ⟨?_, ?_, ?_⟩
      · rintro D U W hDi ⟨hC, hP⟩ hH
        have hF := HF.out _ W hP
        simp only [HypsU, predsOf, Region.binds, List.filterMap_cons, List.filterMap_nil, if_true, List.nil_append, List.cons_append, List.getD_cons_zero, List.getD_cons_succ] at hH
        simp only [fillPuts, Act.put, List.setIfInBounds_toArray, List.set_cons_zero, List.set_cons_succ, Nat.reduceAdd]
        (try simp only [hH]); go_wp2_with fail
        refine ⟨rfl, rfl, (show Below W.heap.size W _ from by (repeat' (first | with_reducible (first | exact Below.refl _ _ | assumption | refine Below.alloc ?_ ?_ _ | refine below_grew ?_ ?_ _ | refine Below.setCell ?_ ?_ _ | refine Below.drew ?_ | refine below_drewN ?_ _) | omega | (simp; done) | (simp; omega)))), ?_⟩
        conv => lhs; whnf
        try rfl
      · exact fun _ => rfl
      simp only [List.nil_append, List.cons_append, Nat.reduceAdd]
      refine RI.wpInv_det (by kernel_rfl) (by kernel_rfl) ?_
      apply Exists.intro
      refine ⟨?_, ?_, ?_⟩
      · rintro D U W hDi ⟨hC, hP⟩ hH
        have hF := HF.out _ W hP
        simp only [HypsU, predsOf, Region.binds, List.filterMap_cons, List.filterMap_nil, if_true, List.nil_append, List.cons_append, List.getD_cons_zero, List.getD_cons_succ] at hH
        simp only [fillPuts, Act.put, List.setIfInBounds_toArray, List.set_cons_zero, List.set_cons_succ, Nat.reduceAdd]
        go_wp2_with fail
        refine ⟨rfl, rfl, (show Below W.heap.size W _ from by (repeat' (first | with_reducible (first | exact Below.refl _ _ | assumption | refine Below.alloc ?_ ?_ _ | refine below_grew ?_ ?_ _ | refine Below.setCell ?_ ?_ _ | refine Below.drew ?_ | refine below_drewN ?_ _) | omega | (simp; done) | (simp; omega)))), ?_⟩
        conv => lhs; whnf
        try rfl
      · exact fun _ => rfl
      simp only [List.nil_append, List.cons_append, Nat.reduceAdd]
      refine RI.wpInv_det (by kernel_rfl) (by kernel_rfl) ?_
      apply Exists.intro
      refine ⟨?_, ?_, ?_⟩
      · rintro D U W hDi ⟨hC, hP⟩ hH
        rw [hDi] at hP
        simp only [HypsU, predsOf, Region.binds, List.filterMap_cons, List.filterMap_nil, if_true, List.nil_append, List.cons_append, List.getD_cons_zero, List.getD_cons_succ] at hH
        simp only [fillPuts, Act.put, List.setIfInBounds_toArray, List.set_cons_zero, List.set_cons_succ, Nat.reduceAdd]
        (try simp only [hH]); go_wp2_with fail; refine (HNXT.out W hP).mono ?_; rintro e2 w' ⟨rfl, hp1, hg1⟩; rw [HZ.out]; go_wp2_with fail
        refine ⟨rfl, rfl, (show Chg _ _ _ ∧ _ from ⟨hg1, hp1⟩), ?_⟩
        conv => lhs; whnf
        try rfl
      · exact fun _ => rfl
      simp only [List.nil_append, List.cons_append, Nat.reduceAdd]
      refine RI.wpInv_det (by kernel_rfl) (by kernel_rfl) ?_
      apply Exists.intro
      refine ⟨?_, ?_, ?_⟩
      · rintro D U W hDi ⟨hC, hP⟩ hH
        have hF := HF.out _ W hP
        simp only [HypsU, predsOf, Region.binds, List.filterMap_cons, List.filterMap_nil, if_true, List.nil_append, List.cons_append, List.getD_cons_zero, List.getD_cons_succ] at hH
        simp only [fillPuts, Act.put, List.setIfInBounds_toArray, List.set_cons_zero, List.set_cons_succ, Nat.reduceAdd]
        (try simp only [hH]); go_wp2_with fail
        refine ⟨rfl, rfl, (show Below W.heap.size W _ from by (repeat' (first | with_reducible (first | exact Below.refl _ _ | assumption | refine Below.alloc ?_ ?_ _ | refine below_grew ?_ ?_ _ | refine Below.setCell ?_ ?_ _ | refine Below.drew ?_ | refine below_drewN ?_ _) | omega | (simp; done) | (simp; omega)))), ?_⟩
        conv => lhs; whnf
        try rfl
      · exact fun _ => rfl
      simp only [List.nil_append, List.cons_append, Nat.reduceAdd]
      refine RI.wpInv_det (by kernel_rfl) (by kernel_rfl) ?_
      apply Exists.intro
      refine ⟨?_, ?_, ?_⟩
      · rintro D U W hDi ⟨hC, hP⟩ hH
        have hF := HF.out _ W hP
        simp only [HypsU, predsOf, Region.binds, List.filterMap_cons, List.filterMap_nil, if_true, List.nil_append, List.cons_append, List.getD_cons_zero, List.getD_cons_succ] at hH
        simp only [fillPuts, Act.put, List.setIfInBounds_toArray, List.set_cons_zero, List.set_cons_succ, Nat.reduceAdd]
        go_wp2_with fail
        refine ⟨rfl, rfl, (show Below W.heap.size W _ from by (repeat' (first | with_reducible (first | exact Below.refl _ _ | assumption | refine Below.alloc ?_ ?_ _ | refine below_grew ?_ ?_ _ | refine Below.setCell ?_ ?_ _ | refine Below.drew ?_ | refine below_drewN ?_ _) | omega | (simp; done) | (simp; omega)))), ?_⟩
        conv => lhs; whnf
        try rfl
      · exact fun _ => rfl
      simp only [List.nil_append, List.cons_append, Nat.reduceAdd]
      refine RI.wpInv_det (by kernel_rfl) (by kernel_rfl) ?_
      apply Exists.intro
      refine ⟨?_, ?_, ?_⟩
      · rintro D U W hDi ⟨hC, hP⟩ hH
        have hF := HF.out _ W hP
        simp only [HypsU, predsOf, Region.binds, List.filterMap_cons, List.filterMap_nil, if_true, List.nil_append, List.cons_append, List.getD_cons_zero, List.getD_cons_succ] at hH
        simp only [fillPuts, Act.put, List.setIfInBounds_toArray, List.set_cons_zero, List.set_cons_succ, Nat.reduceAdd]
        go_wp2_with fail
        refine ⟨rfl, rfl, (show Below W.heap.size W _ from by (repeat' (first | with_reducible (first | exact Below.refl _ _ | assumption | refine Below.alloc ?_ ?_ _ | refine below_grew ?_ ?_ _ | refine Below.setCell ?_ ?_ _ | refine Below.drew ?_ | refine below_drewN ?_ _) | omega | (simp; done) | (simp; omega)))), ?_⟩
        conv => lhs; whnf
        try rfl
      · exact fun _ => rfl
      simp only [List.nil_append, List.cons_append, Nat.reduceAdd]
      simp only [List.nil_append, List.cons_append, Nat.reduceAdd, fillPuts, Act.put, List.setIfInBounds_toArray, List.set_cons_zero, List.set_cons_succ]
      rintro D U W hD ⟨hC, hP⟩ ⟨h0, h1, h2, h3, h4, h5, h6, h7, h8, h9, h10, -⟩ -
      rw [hD 7 (by omega)] at hP
      simp only [h0, h1, h2, h3, h4, h5, h6, h7, h8, h9, h10]
      have hP2 : RdAt c { taken := k + 1, raws := 0, rng := 16777216, val := y } W := hP
      rw [or_byte y z y0 b0 b1 (by omega)]
      have HPW := Lib.hid hP2
      have HCW := Lib.hid (show Below w.heap.size w W from HC4.out.trans (hC.toBelow HC4.out.size (fun k hk => by simp only [List.mem_singleton] at hk; omega)))
      have d4 := hP2.c4
      have g4 := hP2.fz 4
      have dl := hP2.lt
      clear h0 h1 h2 h3 h4 h5 h6 h7 h8 h9 h10 hC hP hP2 HR4 HC4 HNXT HF HPD hl
      go_wp2_with fail
      go_roundw
      case rel => exact ⟨k + 1, by omega, rfl, by rw [HNS.out]; exact HPW.out.set4 (y * 256 + z), HCW.out.setCell hcs _⟩
      case measure => simp [intOf]; omega
    · obtain rfl : k = 3 := by omega
      have HR4 := Lib.hid hR
      have HC4 := Lib.hid hB
      clear hR hB hlt
      go_wp2_with fail
      go_ret
      exact ⟨c, rfl, HFIN.out.1, HFIN.out.2.1, HFIN.out.2.2.1, HFIN.out.2.2.2, HR4.out, HC4.out⟩
end Go.Proofs.YtbcdnbbpkikppaaDoor
end

