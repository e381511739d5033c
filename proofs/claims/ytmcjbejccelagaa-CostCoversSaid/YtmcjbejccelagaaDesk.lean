/-
  A book, and a sheet, of one's own.
-/
import Derived.Test.YtmcjbejccelagaaSheetC
import Derived.Test.YtmcjbejccelagaaCostR
namespace Go
open Go.RowKit
theorem below_bkd {B m : Nat} {a w : World} (h : Below B a w) (hs : B ≤ w.heap.size) (hm : B ≤ m) (x : BookBy) : Below B a (w.bkd m x) :=
  h.trans ⟨rfl, rfl, rfl, by simp, fun k hk => World.bkd_block w m x k (by omega) (by omega)⟩
end Go
namespace Go.Proofs.Ytmcjbejccelagaa
open Go.RowKit Go.BigFrame Go.Vec Go.Cost
set_option linter.unusedSimpArgs false
set_option linter.unusedVariables false

theorem SheetOK.bkd {s m : Nat} {w : World} (h : SheetOK s w) (hs : s < w.heap.size) (hne : m ≠ s) (x : BookBy) : SheetOK s (w.bkd m x) := by
  obtain ⟨cs, h1, h2⟩ := h
  exact ⟨cs, (World.bkd_block w m x s hs hne).trans h1, h2⟩

structure Desk (w0 : World) (b m : Nat) (so : Option Nat) (W : World) : Prop where
  book : Book b m W
  own : w0.heap.size ≤ m
  below : Below w0.heap.size w0 W
  sheet : ∀ s, so = some s → SheetOK s W ∧ s < W.heap.size ∧ m ≠ s
section
variable {w0 W : World} {b m : Nat} {so : Option Nat}
theorem Desk.step {W' : World} (h : Desk w0 b m so W) (hb : Below W.heap.size W W') : Desk w0 b m so W' :=
  ⟨h.book.inv (h.book.refl.below hb), h.own, h.below.trans (hb.mono h.below.size), fun s hs => by
    obtain ⟨h1, h2, h3⟩ := h.sheet s hs
    exact ⟨h1.below h2 hb, Nat.lt_of_lt_of_le h2 hb.size, h3⟩⟩
theorem Desk.bkd (h : Desk w0 b m so W) (x : BookBy) : Desk w0 b m so (W.bkd m x) :=
  ⟨h.book.any x, h.own, below_bkd h.below h.below.size h.own x, fun s hs => by
    obtain ⟨h1, h2, h3⟩ := h.sheet s hs
    exact ⟨h1.bkd h2 h3 x, by simp; omega, h3⟩⟩
/-- A call that changes but the book's map. -/
theorem Desk.calls (h : Desk w0 b m so W) {f : FuncId} {args : Array Value} {v : Value} (hc : BkCalls m W f args v) : Calls Try.prog f args W fun e w' => e = .returned v ∧ Desk w0 b m so w' := by
  obtain ⟨x0, hx⟩ := bkInv_as h.book.refl
  have := hc x0
  rw [← hx] at this
  exact this.mono fun e w' ⟨he, y, hy⟩ => ⟨he, by subst hy; exact h.bkd y⟩
theorem desk_cap (h : Desk w0 b m so W) (n : Int) : Calls Try.prog 13 #[.pointer (some ⟨b, 0, none⟩), .int .i64 n] W fun e w' => e = .returned (.int .i64 (capF n)) ∧ Desk w0 b m so w' := h.calls (cap_any h.book n)
theorem desk_bits (h : Desk w0 b m so W) (n k : Int) : Calls Try.prog 15 #[.pointer (some ⟨b, 0, none⟩), .int .i64 n, .int .i64 k] W fun e w' => e = .returned (.int .i64 (bitsF n k)) ∧ Desk w0 b m so w' := h.calls (bits_any h.book n k)
theorem desk_v (h : Desk w0 b m so W) (n k : Int) : Calls Try.prog 17 #[.pointer (some ⟨b, 0, none⟩), .int .i64 n, .int .i64 k] W fun e w' => e = .returned (.int .u64 (vF n k)) ∧ Desk w0 b m so w' := h.calls (bookV_any h.book n k)
theorem desk_scap {s : Nat} (h : Desk w0 b m (some s) W) (n : Int) : Calls Try.prog 14 #[.pointer (some ⟨s, 0, none⟩), .int .i64 n] W fun e w' => e = .returned (.int .i64 (capF n)) ∧ Desk w0 b m (some s) w' :=
  (sheetCap s W (h.sheet s rfl).1 n).mono fun e w' ⟨he, hw⟩ => ⟨he, hw ▸ h⟩
theorem desk_sbits {s : Nat} (h : Desk w0 b m (some s) W) (n k : Int) : Calls Try.prog 16 #[.pointer (some ⟨s, 0, none⟩), .int .i64 n, .int .i64 k] W fun e w' => e = .returned (.int .i64 (bitsF n k)) ∧ Desk w0 b m (some s) w' :=
  (sheetBits s W (h.sheet s rfl).1 n k).mono fun e w' ⟨he, hw⟩ => ⟨he, hw ▸ h⟩
theorem desk_refcap (h : Desk w0 b m so W) (n : Int) : Calls Try.prog 11 #[.int .i64 n] W fun e w' => e = .returned (.int .i64 (capF n)) ∧ Desk w0 b m so w' :=
  (refCap n W).mono fun e w' ⟨he, hw⟩ => ⟨he, h.step hw⟩
theorem desk_refbits (h : Desk w0 b m so W) (n k : Int) : Calls Try.prog 12 #[.int .i64 n, .int .i64 k] W fun e w' => e = .returned (.int .i64 (bitsF n k)) ∧ Desk w0 b m so w' :=
  (refBits n k W).mono fun e w' ⟨he, hw⟩ => ⟨he, h.step hw⟩
end
theorem desk_new (w0 W : World) (hb : Below w0.heap.size w0 W) : Calls Try.prog 8 #[] W fun e w' => ∃ b m, e = .returned (.pointer (some ⟨b, 0, none⟩)) ∧ Desk w0 b m none w' :=
  (bookNew W).mono fun e w' ⟨b, m, he, _, hm, hB, hw⟩ => ⟨b, m, he, hB, Nat.le_trans hb.size hm, hb.trans (hw.mono hb.size), fun s hs => by cases hs⟩
theorem desk_tab {w0 W : World} {b m : Nat} (h : Desk w0 b m none W) : Calls Try.prog 10 #[] W fun e w' => ∃ t, e = .returned (.pointer (some ⟨t, 0, none⟩)) ∧ Desk w0 b m none w' ∧ TableOK t w' ∧ t < w'.heap.size :=
  (tabNew W).mono fun e w' ⟨t, he, _, hT, hw⟩ => ⟨t, he, h.step hw, hT, by
    obtain ⟨cs, h1, _⟩ := hT
    exact (Array.getElem?_eq_some_iff.1 h1).1⟩
theorem desk_sheet {w0 W : World} {b m t : Nat} (h : Desk w0 b m none W) (hT : TableOK t W) (ht : t < W.heap.size) : Calls Try.prog 9 #[.pointer (some ⟨t, 0, none⟩)] W fun e w' => ∃ s, e = .returned (.pointer (some ⟨s, 0, none⟩)) ∧ Desk w0 b m (some s) w' :=
  (sheetNew t W hT ht).mono fun e w' ⟨s, he, hs, hS, hw⟩ => ⟨s, he, (h.step hw).book, h.own, (h.step hw).below, fun s' e' => by
    cases e'
    refine ⟨hS, ?_, ?_⟩
    · obtain ⟨cs, h1, _⟩ := hS
      exact (Array.getElem?_eq_some_iff.1 h1).1
    · have := h.book.lt_m
      omega⟩

theorem awake13 (w : World) : Calls Try.prog 7 #[] w fun e w' => e = .returned (.bool true) ∧ Below w.heap.size w w' := by
  have e5 : bitsF 2 3 = 5 := by decide +kernel
  have h0 := Lib.hid (desk_new w)
  go_enter Try.func7, Try.ntmps7
  go_wp2_with fail
  refine (h0.out _ (Below.refl _ _)).mono ?_
  rintro e w1 ⟨b, m, rfl, hD⟩
  go_wp2_with (first | (go_at_call 15; refine (desk_bits hD _ _).mono ?_; rintro e w2 ⟨rfl, hD⟩) | (go_at_call 10; refine (desk_tab hD).mono ?_; rintro e w2 ⟨t, rfl, hD, hT, ht⟩) | (go_at_call 9; refine (desk_sheet hD hT ht).mono ?_; rintro e w2 ⟨s, rfl, hD⟩) | (go_at_call 16; refine (desk_sbits hD _ _).mono ?_; rintro e w2 ⟨rfl, hD⟩))
  go_ret
  exact ⟨rfl, hD.below⟩
end Go.Proofs.Ytmcjbejccelagaa
