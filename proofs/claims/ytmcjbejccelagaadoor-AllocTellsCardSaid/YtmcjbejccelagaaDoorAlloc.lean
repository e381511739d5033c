/-
  A budget is shared out (package alloc).
-/
import Derived.Test.YtmcjbejccelagaaDoorBest
namespace Go.Proofs.YtmcjbejccelagaaDoor
open Go.RowKit Go.BigFrame Go.Vec Go.Cost
set_option linter.unusedSimpArgs false

def allocGo (s c t bud : Int) : Nat → List Int → List Int
  | 0, l => l
  | f + 1, l => if bestF s c t l < 0 then l else if totalF s c (l.set (bestF s c t l).toNat (l.getD (bestF s c t l).toNat 0 + 1)) > bud then l else allocGo s c t bud f (l.set (bestF s c t l).toNat (l.getD (bestF s c t l).toNat 0 + 1))
def allocF (s c t bud : Int) : List Int := allocGo s c t bud 161 [0, 0, 0, 0, 0]
def aggOf (l : List Int) : Value := .agg (l.map fun x => Value.int .i64 x).toArray

theorem bestTo_cap (s c t : Int) (l : List Int) : ∀ n : Nat, 0 ≤ (bestTo s c t l n).1 → l.getD (bestTo s c t l n).1.toNat 0 < capF (widthF s c (bestTo s c t l n).1)
  | 0, h => by simp [bestTo] at h
  | n + 1, h => by
    have ih := bestTo_cap s c t l n
    simp only [bestTo] at h ⊢
    split
    · rename_i hc
      rw [if_pos hc] at h
      exact ih h
    · rename_i hc
      rw [if_neg hc] at h
      split
      · simp only [Int.toNat_natCast]
        omega
      · rename_i h2
        rw [if_neg h2] at h
        exact ih h
theorem bestF_facts (s c t : Int) (l : List Int) : bestF s c t l < 5 ∧ (0 ≤ bestF s c t l → l.getD (bestF s c t l).toNat 0 < 32) := by
  have h1 := bestTo_bd s c t l (bandsF s c).toNat
  have h2 := bestTo_cap s c t l (bandsF s c).toNat
  have h3 := bandsF_bd s c
  have h4 := capF_bd (widthF s c (bestTo s c t l (bandsF s c).toNat).1)
  unfold bestF
  exact ⟨by omega, fun h => by have := h2 h; omega⟩

set_option maxHeartbeats 2000000 in
set_option maxRecDepth 100000 in
theorem alloc_any (s c t bud : Int) (b m : Nat) (w : World) (hB : Book b m w) (hT : WidthW w) :
    Calls Tryd.prog 27 #[.pointer (some ⟨b, 0, none⟩), .agg #[.int .i64 s, .int .i64 c], .int .i64 t, .int .i64 bud] w fun e w' => e = .returned (aggOf (allocF s c t bud)) ∧ Bk m w w' := by
  have hml := hB.lt_m
  have d0 : m ≠ w.heap.size := by omega
  have d1 : m ≠ w.heap.size + 1 := by omega
  have d2 : m ≠ w.heap.size + 2 := by omega
  obtain ⟨A, hA⟩ : ∃ A, A = allocF s c t bud := ⟨_, rfl⟩
  rw [← hA]
  have HA := Lib.hid hA
  clear hA
  go_enter Tryd.func27, Tryd.ntmps27
  go_wp2_with fail
  go_loopw [10] (fun _ wr => ∃ l0 l1 l2 l3 l4 : Nat, l0 ≤ 32 ∧ l1 ≤ 32 ∧ l2 ≤ 32 ∧ l3 ≤ 32 ∧ l4 ≤ 32 ∧ allocGo s c t bud (161 - (l0 + l1 + l2 + l3 + l4)) [(l0 : Int), l1, l2, l3, l4] = A ∧ ∃ y, wr = (((w.alloc (.cells #[.int .i64 s, .int .i64 c] 33)).alloc (.cells #[.int .i64 0, .int .i64 0, .int .i64 0, .int .i64 0, .int .i64 0] 22)).alloc (.cells #[.int .i64 l0, .int .i64 l1, .int .i64 l2, .int .i64 l3, .int .i64 l4] 22)).bkd m y)
    (fun _ wr => 160 - ((intOf ((wr.cell? ⟨w.heap.size + 2, 0, none⟩).getD (.bool false))).toNat + (intOf ((wr.cell? ⟨w.heap.size + 2, 1, none⟩).getD (.bool false))).toNat + (intOf ((wr.cell? ⟨w.heap.size + 2, 2, none⟩).getD (.bool false))).toNat + (intOf ((wr.cell? ⟨w.heap.size + 2, 3, none⟩).getD (.bool false))).toNat + (intOf ((wr.cell? ⟨w.heap.size + 2, 4, none⟩).getD (.bool false))).toNat))
  case atStart =>
    have hi : Book b m (((w.alloc (.cells #[.int .i64 s, .int .i64 c] 33)).alloc (.cells #[.int .i64 0, .int .i64 0, .int .i64 0, .int .i64 0, .int .i64 0] 22)).alloc (.cells #[.int .i64 0, .int .i64 0, .int .i64 0, .int .i64 0, .int .i64 0] 22)) := hB.inv (((hB.refl.alloc _).alloc _).alloc _)
    obtain ⟨y0, hy0⟩ := bkInv_as hi.refl
    exact ⟨0, 0, 0, 0, 0, by omega, by omega, by omega, by omega, by omega, HA.out.symm, y0, hy0⟩
  case round =>
    obtain ⟨l0, l1, l2, l3, l4, b0, b1, b2, b3, b4, hgo, y, rfl⟩ := hrel
    have hW : BkInv m w ((((w.alloc (.cells #[.int .i64 s, .int .i64 c] 33)).alloc (.cells #[.int .i64 0, .int .i64 0, .int .i64 0, .int .i64 0, .int .i64 0] 22)).alloc (.cells #[.int .i64 l0, .int .i64 l1, .int .i64 l2, .int .i64 l3, .int .i64 l4] 22)).bkd m y) := (((hB.refl.alloc _).alloc _).alloc _).bkd y
    have hbest := Lib.hid (best_any s c t l0 l1 l2 l3 l4 (fun n hn => by
      have : n = 0 ∨ n = 1 ∨ n = 2 ∨ n = 3 ∨ n = 4 := by omega
      rcases this with rfl | rfl | rfl | rfl | rfl <;> simp <;> omega) b m _ (hB.inv hW) (hT.inv hB hW))
    obtain ⟨f1, f2⟩ := bestF_facts s c t [(l0 : Int), l1, l2, l3, l4]
    have F2 := Lib.hid f2
    have HG := Lib.hid hgo
    clear f2 hgo hW
    by_cases hneg : bestF s c t [(l0 : Int), l1, l2, l3, l4] < 0
    · have E := Lib.hid (show A = [(l0 : Int), l1, l2, l3, l4] from by
        rw [← HG.out, show 161 - (l0 + l1 + l2 + l3 + l4) = (160 - (l0 + l1 + l2 + l3 + l4)) + 1 by omega]
        simp only [allocGo]
        rw [if_pos hneg])
      generalize bestF s c t [(l0 : Int), l1, l2, l3, l4] = bf at *
      go_wp2_with fail
      refine hbest.out.mono ?_
      rintro e w' ⟨rfl, y1, rfl⟩
      go_wp2_with fail
      refine bodyPost_ret (v := _) (by simp [results, Tryd.results27, go_sem, d1]; rfl) rfl ⟨?_, ?_⟩
      · rw [E.out]; rfl
      · exact bkInv_as (by (repeat' (first | (with_reducible assumption) | (with_reducible exact BookOK.refl ‹_›) | (with_reducible refine BkInv.alloc ?_ _) | (with_reducible refine BkInv.grew ?_ _) | (with_reducible refine BkInv.bkd ?_ _) | (with_reducible refine BkInv.setCell ?_ ?_ _) | (with_reducible refine BkInv.drew ?_) | (with_reducible refine BkInv.drewN ?_ _) | omega | (simp; done) | (simp; omega))))
    · have hf := F2.out (by omega)
      have hbf : bestF s c t [(l0 : Int), l1, l2, l3, l4] = 0 ∨ bestF s c t [(l0 : Int), l1, l2, l3, l4] = 1 ∨ bestF s c t [(l0 : Int), l1, l2, l3, l4] = 2 ∨ bestF s c t [(l0 : Int), l1, l2, l3, l4] = 3 ∨ bestF s c t [(l0 : Int), l1, l2, l3, l4] = 4 := by omega
      rcases hbf with hbf | hbf | hbf | hbf | hbf
      · have E := Lib.hid (show allocGo s c t bud ((160 - (l0 + l1 + l2 + l3 + l4)) + 1) [(l0 : Int), l1, l2, l3, l4] = A from by rw [show (160 - (l0 + l1 + l2 + l3 + l4)) + 1 = 161 - (l0 + l1 + l2 + l3 + l4) by omega]; exact HG.out)
        simp only [allocGo, if_neg hneg] at E
        rw [hbf] at E hf hbest
        simp only [show (2 : Int).toNat = 2 from rfl, show (3 : Int).toNat = 3 from rfl, show (4 : Int).toNat = 4 from rfl, Int.toNat_zero, Int.toNat_one, List.set_cons_zero, List.set_cons_succ, List.getD_cons_zero, List.getD_cons_succ] at E hf
        clear hbf hneg f1
        go_wp2_with fail
        refine hbest.out.mono ?_
        rintro e w' ⟨rfl, y1, rfl⟩
        go_wp2_with fail
        refine (total_any s c _ _ _ _ _ b m _ (hB.inv ?_) (hT.inv hB ?_)).mono ?_
        · (repeat' (first | (with_reducible assumption) | (with_reducible exact BookOK.refl ‹_›) | (with_reducible refine BkInv.alloc ?_ _) | (with_reducible refine BkInv.grew ?_ _) | (with_reducible refine BkInv.bkd ?_ _) | (with_reducible refine BkInv.setCell ?_ ?_ _) | (with_reducible refine BkInv.drew ?_) | (with_reducible refine BkInv.drewN ?_ _) | omega | (simp; done) | (simp; omega)))
        · (repeat' (first | (with_reducible assumption) | (with_reducible exact BookOK.refl ‹_›) | (with_reducible refine BkInv.alloc ?_ _) | (with_reducible refine BkInv.grew ?_ _) | (with_reducible refine BkInv.bkd ?_ _) | (with_reducible refine BkInv.setCell ?_ ?_ _) | (with_reducible refine BkInv.drew ?_) | (with_reducible refine BkInv.drewN ?_ _) | omega | (simp; done) | (simp; omega)))
        rintro e w' ⟨rfl, y2, rfl⟩
        by_cases hov : bud < totalF s c [(l0 : Int) + 1, (l1 : Int), (l2 : Int), (l3 : Int), (l4 : Int)]
        · have E2 := Lib.hid ((if_pos hov).symm.trans E.out)
          generalize totalF s c [(l0 : Int) + 1, (l1 : Int), (l2 : Int), (l3 : Int), (l4 : Int)] = T at *
          go_wp2_with fail
          refine bodyPost_ret (v := _) (by simp [results, Tryd.results27, go_sem, d1]; rfl) rfl ⟨?_, ?_⟩
          · rw [← E2.out]; rfl
          · exact bkInv_as (by (repeat' (first | (with_reducible assumption) | (with_reducible exact BookOK.refl ‹_›) | (with_reducible refine BkInv.alloc ?_ _) | (with_reducible refine BkInv.grew ?_ _) | (with_reducible refine BkInv.bkd ?_ _) | (with_reducible refine BkInv.setCell ?_ ?_ _) | (with_reducible refine BkInv.drew ?_) | (with_reducible refine BkInv.drewN ?_ _) | omega | (simp; done) | (simp; omega))))
        · have E2 := Lib.hid ((if_neg hov).symm.trans E.out)
          generalize totalF s c [(l0 : Int) + 1, (l1 : Int), (l2 : Int), (l3 : Int), (l4 : Int)] = T at *
          go_wp2_with fail
          go_roundw
          case rel =>
            have hWl := hB.inv (((hB.refl.alloc (.cells #[.int .i64 s, .int .i64 c] 33)).alloc (.cells #[.int .i64 0, .int .i64 0, .int .i64 0, .int .i64 0, .int .i64 0] 22)).alloc (.cells #[.int .i64 ((l0 : Int) + 1), .int .i64 (l1 : Int), .int .i64 (l2 : Int), .int .i64 (l3 : Int), .int .i64 (l4 : Int)] 22))
            refine ⟨l0 + 1, l1, l2, l3, l4, by omega, by omega, by omega, by omega, by omega, ?_, ?_⟩
            · rw [show 161 - ((l0 + 1) + l1 + l2 + l3 + l4) = 160 - (l0 + l1 + l2 + l3 + l4) by omega]
              push_cast
              exact E2.out
            · push_cast
              exact bkInv_as (by (repeat' (first | (with_reducible assumption) | (with_reducible exact BookOK.refl ‹_›) | (with_reducible refine BkInv.alloc ?_ _) | (with_reducible refine BkInv.grew ?_ _) | (with_reducible refine BkInv.bkd ?_ _) | (with_reducible refine BkInv.setCell ?_ ?_ _) | (with_reducible refine BkInv.drew ?_) | (with_reducible refine BkInv.drewN ?_ _) | omega | (simp; done) | (simp; omega))))
          case measure =>
            simp [go_sem, d2, intOf]
            omega
      · have E := Lib.hid (show allocGo s c t bud ((160 - (l0 + l1 + l2 + l3 + l4)) + 1) [(l0 : Int), l1, l2, l3, l4] = A from by rw [show (160 - (l0 + l1 + l2 + l3 + l4)) + 1 = 161 - (l0 + l1 + l2 + l3 + l4) by omega]; exact HG.out)
        simp only [allocGo, if_neg hneg] at E
        rw [hbf] at E hf hbest
        simp only [show (2 : Int).toNat = 2 from rfl, show (3 : Int).toNat = 3 from rfl, show (4 : Int).toNat = 4 from rfl, Int.toNat_zero, Int.toNat_one, List.set_cons_zero, List.set_cons_succ, List.getD_cons_zero, List.getD_cons_succ] at E hf
        clear hbf hneg f1
        go_wp2_with fail
        refine hbest.out.mono ?_
        rintro e w' ⟨rfl, y1, rfl⟩
        go_wp2_with fail
        refine (total_any s c _ _ _ _ _ b m _ (hB.inv ?_) (hT.inv hB ?_)).mono ?_
        · (repeat' (first | (with_reducible assumption) | (with_reducible exact BookOK.refl ‹_›) | (with_reducible refine BkInv.alloc ?_ _) | (with_reducible refine BkInv.grew ?_ _) | (with_reducible refine BkInv.bkd ?_ _) | (with_reducible refine BkInv.setCell ?_ ?_ _) | (with_reducible refine BkInv.drew ?_) | (with_reducible refine BkInv.drewN ?_ _) | omega | (simp; done) | (simp; omega)))
        · (repeat' (first | (with_reducible assumption) | (with_reducible exact BookOK.refl ‹_›) | (with_reducible refine BkInv.alloc ?_ _) | (with_reducible refine BkInv.grew ?_ _) | (with_reducible refine BkInv.bkd ?_ _) | (with_reducible refine BkInv.setCell ?_ ?_ _) | (with_reducible refine BkInv.drew ?_) | (with_reducible refine BkInv.drewN ?_ _) | omega | (simp; done) | (simp; omega)))
        rintro e w' ⟨rfl, y2, rfl⟩
        by_cases hov : bud < totalF s c [(l0 : Int), (l1 : Int) + 1, (l2 : Int), (l3 : Int), (l4 : Int)]
        · have E2 := Lib.hid ((if_pos hov).symm.trans E.out)
          generalize totalF s c [(l0 : Int), (l1 : Int) + 1, (l2 : Int), (l3 : Int), (l4 : Int)] = T at *
          go_wp2_with fail
          refine bodyPost_ret (v := _) (by simp [results, Tryd.results27, go_sem, d1]; rfl) rfl ⟨?_, ?_⟩
          · rw [← E2.out]; rfl
          · exact bkInv_as (by (repeat' (first | (with_reducible assumption) | (with_reducible exact BookOK.refl ‹_›) | (with_reducible refine BkInv.alloc ?_ _) | (with_reducible refine BkInv.grew ?_ _) | (with_reducible refine BkInv.bkd ?_ _) | (with_reducible refine BkInv.setCell ?_ ?_ _) | (with_reducible refine BkInv.drew ?_) | (with_reducible refine BkInv.drewN ?_ _) | omega | (simp; done) | (simp; omega))))
        · have E2 := Lib.hid ((if_neg hov).symm.trans E.out)
          generalize totalF s c [(l0 : Int), (l1 : Int) + 1, (l2 : Int), (l3 : Int), (l4 : Int)] = T at *
          go_wp2_with fail
          go_roundw
          case rel =>
            have hWl := hB.inv (((hB.refl.alloc (.cells #[.int .i64 s, .int .i64 c] 33)).alloc (.cells #[.int .i64 0, .int .i64 0, .int .i64 0, .int .i64 0, .int .i64 0] 22)).alloc (.cells #[.int .i64 (l0 : Int), .int .i64 ((l1 : Int) + 1), .int .i64 (l2 : Int), .int .i64 (l3 : Int), .int .i64 (l4 : Int)] 22))
            refine ⟨l0, l1 + 1, l2, l3, l4, by omega, by omega, by omega, by omega, by omega, ?_, ?_⟩
            · rw [show 161 - (l0 + (l1 + 1) + l2 + l3 + l4) = 160 - (l0 + l1 + l2 + l3 + l4) by omega]
              push_cast
              exact E2.out
            · push_cast
              exact bkInv_as (by (repeat' (first | (with_reducible assumption) | (with_reducible exact BookOK.refl ‹_›) | (with_reducible refine BkInv.alloc ?_ _) | (with_reducible refine BkInv.grew ?_ _) | (with_reducible refine BkInv.bkd ?_ _) | (with_reducible refine BkInv.setCell ?_ ?_ _) | (with_reducible refine BkInv.drew ?_) | (with_reducible refine BkInv.drewN ?_ _) | omega | (simp; done) | (simp; omega))))
          case measure =>
            simp [go_sem, d2, intOf]
            omega
      · have E := Lib.hid (show allocGo s c t bud ((160 - (l0 + l1 + l2 + l3 + l4)) + 1) [(l0 : Int), l1, l2, l3, l4] = A from by rw [show (160 - (l0 + l1 + l2 + l3 + l4)) + 1 = 161 - (l0 + l1 + l2 + l3 + l4) by omega]; exact HG.out)
        simp only [allocGo, if_neg hneg] at E
        rw [hbf] at E hf hbest
        simp only [show (2 : Int).toNat = 2 from rfl, show (3 : Int).toNat = 3 from rfl, show (4 : Int).toNat = 4 from rfl, Int.toNat_zero, Int.toNat_one, List.set_cons_zero, List.set_cons_succ, List.getD_cons_zero, List.getD_cons_succ] at E hf
        clear hbf hneg f1
        go_wp2_with fail
        refine hbest.out.mono ?_
        rintro e w' ⟨rfl, y1, rfl⟩
        go_wp2_with fail
        refine (total_any s c _ _ _ _ _ b m _ (hB.inv ?_) (hT.inv hB ?_)).mono ?_
        · (repeat' (first | (with_reducible assumption) | (with_reducible exact BookOK.refl ‹_›) | (with_reducible refine BkInv.alloc ?_ _) | (with_reducible refine BkInv.grew ?_ _) | (with_reducible refine BkInv.bkd ?_ _) | (with_reducible refine BkInv.setCell ?_ ?_ _) | (with_reducible refine BkInv.drew ?_) | (with_reducible refine BkInv.drewN ?_ _) | omega | (simp; done) | (simp; omega)))
        · (repeat' (first | (with_reducible assumption) | (with_reducible exact BookOK.refl ‹_›) | (with_reducible refine BkInv.alloc ?_ _) | (with_reducible refine BkInv.grew ?_ _) | (with_reducible refine BkInv.bkd ?_ _) | (with_reducible refine BkInv.setCell ?_ ?_ _) | (with_reducible refine BkInv.drew ?_) | (with_reducible refine BkInv.drewN ?_ _) | omega | (simp; done) | (simp; omega)))
        rintro e w' ⟨rfl, y2, rfl⟩
        by_cases hov : bud < totalF s c [(l0 : Int), (l1 : Int), (l2 : Int) + 1, (l3 : Int), (l4 : Int)]
        · have E2 := Lib.hid ((if_pos hov).symm.trans E.out)
          generalize totalF s c [(l0 : Int), (l1 : Int), (l2 : Int) + 1, (l3 : Int), (l4 : Int)] = T at *
          go_wp2_with fail
          refine bodyPost_ret (v := _) (by simp [results, Tryd.results27, go_sem, d1]; rfl) rfl ⟨?_, ?_⟩
          · rw [← E2.out]; rfl
          · exact bkInv_as (by (repeat' (first | (with_reducible assumption) | (with_reducible exact BookOK.refl ‹_›) | (with_reducible refine BkInv.alloc ?_ _) | (with_reducible refine BkInv.grew ?_ _) | (with_reducible refine BkInv.bkd ?_ _) | (with_reducible refine BkInv.setCell ?_ ?_ _) | (with_reducible refine BkInv.drew ?_) | (with_reducible refine BkInv.drewN ?_ _) | omega | (simp; done) | (simp; omega))))
        · have E2 := Lib.hid ((if_neg hov).symm.trans E.out)
          generalize totalF s c [(l0 : Int), (l1 : Int), (l2 : Int) + 1, (l3 : Int), (l4 : Int)] = T at *
          go_wp2_with fail
          go_roundw
          case rel =>
            have hWl := hB.inv (((hB.refl.alloc (.cells #[.int .i64 s, .int .i64 c] 33)).alloc (.cells #[.int .i64 0, .int .i64 0, .int .i64 0, .int .i64 0, .int .i64 0] 22)).alloc (.cells #[.int .i64 (l0 : Int), .int .i64 (l1 : Int), .int .i64 ((l2 : Int) + 1), .int .i64 (l3 : Int), .int .i64 (l4 : Int)] 22))
            refine ⟨l0, l1, l2 + 1, l3, l4, by omega, by omega, by omega, by omega, by omega, ?_, ?_⟩
            · rw [show 161 - (l0 + l1 + (l2 + 1) + l3 + l4) = 160 - (l0 + l1 + l2 + l3 + l4) by omega]
              push_cast
              exact E2.out
            · push_cast
              exact bkInv_as (by (repeat' (first | (with_reducible assumption) | (with_reducible exact BookOK.refl ‹_›) | (with_reducible refine BkInv.alloc ?_ _) | (with_reducible refine BkInv.grew ?_ _) | (with_reducible refine BkInv.bkd ?_ _) | (with_reducible refine BkInv.setCell ?_ ?_ _) | (with_reducible refine BkInv.drew ?_) | (with_reducible refine BkInv.drewN ?_ _) | omega | (simp; done) | (simp; omega))))
          case measure =>
            simp [go_sem, d2, intOf]
            omega
      · have E := Lib.hid (show allocGo s c t bud ((160 - (l0 + l1 + l2 + l3 + l4)) + 1) [(l0 : Int), l1, l2, l3, l4] = A from by rw [show (160 - (l0 + l1 + l2 + l3 + l4)) + 1 = 161 - (l0 + l1 + l2 + l3 + l4) by omega]; exact HG.out)
        simp only [allocGo, if_neg hneg] at E
        rw [hbf] at E hf hbest
        simp only [show (2 : Int).toNat = 2 from rfl, show (3 : Int).toNat = 3 from rfl, show (4 : Int).toNat = 4 from rfl, Int.toNat_zero, Int.toNat_one, List.set_cons_zero, List.set_cons_succ, List.getD_cons_zero, List.getD_cons_succ] at E hf
        clear hbf hneg f1
        go_wp2_with fail
        refine hbest.out.mono ?_
        rintro e w' ⟨rfl, y1, rfl⟩
        go_wp2_with fail
        refine (total_any s c _ _ _ _ _ b m _ (hB.inv ?_) (hT.inv hB ?_)).mono ?_
        · (repeat' (first | (with_reducible assumption) | (with_reducible exact BookOK.refl ‹_›) | (with_reducible refine BkInv.alloc ?_ _) | (with_reducible refine BkInv.grew ?_ _) | (with_reducible refine BkInv.bkd ?_ _) | (with_reducible refine BkInv.setCell ?_ ?_ _) | (with_reducible refine BkInv.drew ?_) | (with_reducible refine BkInv.drewN ?_ _) | omega | (simp; done) | (simp; omega)))
        · (repeat' (first | (with_reducible assumption) | (with_reducible exact BookOK.refl ‹_›) | (with_reducible refine BkInv.alloc ?_ _) | (with_reducible refine BkInv.grew ?_ _) | (with_reducible refine BkInv.bkd ?_ _) | (with_reducible refine BkInv.setCell ?_ ?_ _) | (with_reducible refine BkInv.drew ?_) | (with_reducible refine BkInv.drewN ?_ _) | omega | (simp; done) | (simp; omega)))
        rintro e w' ⟨rfl, y2, rfl⟩
        by_cases hov : bud < totalF s c [(l0 : Int), (l1 : Int), (l2 : Int), (l3 : Int) + 1, (l4 : Int)]
        · have E2 := Lib.hid ((if_pos hov).symm.trans E.out)
          generalize totalF s c [(l0 : Int), (l1 : Int), (l2 : Int), (l3 : Int) + 1, (l4 : Int)] = T at *
          go_wp2_with fail
          refine bodyPost_ret (v := _) (by simp [results, Tryd.results27, go_sem, d1]; rfl) rfl ⟨?_, ?_⟩
          · rw [← E2.out]; rfl
          · exact bkInv_as (by (repeat' (first | (with_reducible assumption) | (with_reducible exact BookOK.refl ‹_›) | (with_reducible refine BkInv.alloc ?_ _) | (with_reducible refine BkInv.grew ?_ _) | (with_reducible refine BkInv.bkd ?_ _) | (with_reducible refine BkInv.setCell ?_ ?_ _) | (with_reducible refine BkInv.drew ?_) | (with_reducible refine BkInv.drewN ?_ _) | omega | (simp; done) | (simp; omega))))
        · have E2 := Lib.hid ((if_neg hov).symm.trans E.out)
          generalize totalF s c [(l0 : Int), (l1 : Int), (l2 : Int), (l3 : Int) + 1, (l4 : Int)] = T at *
          go_wp2_with fail
          go_roundw
          case rel =>
            have hWl := hB.inv (((hB.refl.alloc (.cells #[.int .i64 s, .int .i64 c] 33)).alloc (.cells #[.int .i64 0, .int .i64 0, .int .i64 0, .int .i64 0, .int .i64 0] 22)).alloc (.cells #[.int .i64 (l0 : Int), .int .i64 (l1 : Int), .int .i64 (l2 : Int), .int .i64 ((l3 : Int) + 1), .int .i64 (l4 : Int)] 22))
            refine ⟨l0, l1, l2, l3 + 1, l4, by omega, by omega, by omega, by omega, by omega, ?_, ?_⟩
            · rw [show 161 - (l0 + l1 + l2 + (l3 + 1) + l4) = 160 - (l0 + l1 + l2 + l3 + l4) by omega]
              push_cast
              exact E2.out
            · push_cast
              exact bkInv_as (by (repeat' (first | (with_reducible assumption) | (with_reducible exact BookOK.refl ‹_›) | (with_reducible refine BkInv.alloc ?_ _) | (with_reducible refine BkInv.grew ?_ _) | (with_reducible refine BkInv.bkd ?_ _) | (with_reducible refine BkInv.setCell ?_ ?_ _) | (with_reducible refine BkInv.drew ?_) | (with_reducible refine BkInv.drewN ?_ _) | omega | (simp; done) | (simp; omega))))
          case measure =>
            simp [go_sem, d2, intOf]
            omega
      · have E := Lib.hid (show allocGo s c t bud ((160 - (l0 + l1 + l2 + l3 + l4)) + 1) [(l0 : Int), l1, l2, l3, l4] = A from by rw [show (160 - (l0 + l1 + l2 + l3 + l4)) + 1 = 161 - (l0 + l1 + l2 + l3 + l4) by omega]; exact HG.out)
        simp only [allocGo, if_neg hneg] at E
        rw [hbf] at E hf hbest
        simp only [show (2 : Int).toNat = 2 from rfl, show (3 : Int).toNat = 3 from rfl, show (4 : Int).toNat = 4 from rfl, Int.toNat_zero, Int.toNat_one, List.set_cons_zero, List.set_cons_succ, List.getD_cons_zero, List.getD_cons_succ] at E hf
        clear hbf hneg f1
        go_wp2_with fail
        refine hbest.out.mono ?_
        rintro e w' ⟨rfl, y1, rfl⟩
        go_wp2_with fail
        refine (total_any s c _ _ _ _ _ b m _ (hB.inv ?_) (hT.inv hB ?_)).mono ?_
        · (repeat' (first | (with_reducible assumption) | (with_reducible exact BookOK.refl ‹_›) | (with_reducible refine BkInv.alloc ?_ _) | (with_reducible refine BkInv.grew ?_ _) | (with_reducible refine BkInv.bkd ?_ _) | (with_reducible refine BkInv.setCell ?_ ?_ _) | (with_reducible refine BkInv.drew ?_) | (with_reducible refine BkInv.drewN ?_ _) | omega | (simp; done) | (simp; omega)))
        · (repeat' (first | (with_reducible assumption) | (with_reducible exact BookOK.refl ‹_›) | (with_reducible refine BkInv.alloc ?_ _) | (with_reducible refine BkInv.grew ?_ _) | (with_reducible refine BkInv.bkd ?_ _) | (with_reducible refine BkInv.setCell ?_ ?_ _) | (with_reducible refine BkInv.drew ?_) | (with_reducible refine BkInv.drewN ?_ _) | omega | (simp; done) | (simp; omega)))
        rintro e w' ⟨rfl, y2, rfl⟩
        by_cases hov : bud < totalF s c [(l0 : Int), (l1 : Int), (l2 : Int), (l3 : Int), (l4 : Int) + 1]
        · have E2 := Lib.hid ((if_pos hov).symm.trans E.out)
          generalize totalF s c [(l0 : Int), (l1 : Int), (l2 : Int), (l3 : Int), (l4 : Int) + 1] = T at *
          go_wp2_with fail
          refine bodyPost_ret (v := _) (by simp [results, Tryd.results27, go_sem, d1]; rfl) rfl ⟨?_, ?_⟩
          · rw [← E2.out]; rfl
          · exact bkInv_as (by (repeat' (first | (with_reducible assumption) | (with_reducible exact BookOK.refl ‹_›) | (with_reducible refine BkInv.alloc ?_ _) | (with_reducible refine BkInv.grew ?_ _) | (with_reducible refine BkInv.bkd ?_ _) | (with_reducible refine BkInv.setCell ?_ ?_ _) | (with_reducible refine BkInv.drew ?_) | (with_reducible refine BkInv.drewN ?_ _) | omega | (simp; done) | (simp; omega))))
        · have E2 := Lib.hid ((if_neg hov).symm.trans E.out)
          generalize totalF s c [(l0 : Int), (l1 : Int), (l2 : Int), (l3 : Int), (l4 : Int) + 1] = T at *
          go_wp2_with fail
          go_roundw
          case rel =>
            have hWl := hB.inv (((hB.refl.alloc (.cells #[.int .i64 s, .int .i64 c] 33)).alloc (.cells #[.int .i64 0, .int .i64 0, .int .i64 0, .int .i64 0, .int .i64 0] 22)).alloc (.cells #[.int .i64 (l0 : Int), .int .i64 (l1 : Int), .int .i64 (l2 : Int), .int .i64 (l3 : Int), .int .i64 ((l4 : Int) + 1)] 22))
            refine ⟨l0, l1, l2, l3, l4 + 1, by omega, by omega, by omega, by omega, by omega, ?_, ?_⟩
            · rw [show 161 - (l0 + l1 + l2 + l3 + (l4 + 1)) = 160 - (l0 + l1 + l2 + l3 + l4) by omega]
              push_cast
              exact E2.out
            · push_cast
              exact bkInv_as (by (repeat' (first | (with_reducible assumption) | (with_reducible exact BookOK.refl ‹_›) | (with_reducible refine BkInv.alloc ?_ _) | (with_reducible refine BkInv.grew ?_ _) | (with_reducible refine BkInv.bkd ?_ _) | (with_reducible refine BkInv.setCell ?_ ?_ _) | (with_reducible refine BkInv.drew ?_) | (with_reducible refine BkInv.drewN ?_ _) | omega | (simp; done) | (simp; omega))))
          case measure =>
            simp [go_sem, d2, intOf]
            omega
end Go.Proofs.YtmcjbejccelagaaDoor
