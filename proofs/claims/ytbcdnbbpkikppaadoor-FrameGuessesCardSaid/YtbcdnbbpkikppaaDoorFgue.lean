/-
  FrameGuesses: what is guessed of an energy, and how many fine bits there are, is told; nothing outside. For every input.
  (One text out of these parts: FlatS, FlatA, Law, FrameGuessesRow.)
-/
import Derived.Test.YtbcdnbbpkikppaaDoorFgud
import Derived.DataReads
import Derived.Lib.SmallJoins
import Derived.ProofKit
import Derived.LaidMore
import Derived.OpenShut
import Derived.Stop.Joined
import Derived.Lib.LaidTab
import Derived.Test.YtbcdnbbpkikppaaDoorCards
import Derived.Test.YtbcdnbbpkikppaaDoorTie
import Derived.SevenTiedAt
section
namespace Go
open Go.RowKit
set_option linter.unusedSimpArgs false
section
variable {H : Type} {enc : TypeId × Value → H} {P : Program} {w : World} {base : Nat} {spare : Nat → Bool} {held : Bool}
theorem addr_add (b off x : Nat) : (⟨b, off, none⟩ : Addr).add x = ⟨b, off + x, none⟩ := by
  unfold Addr.add
  split
  · rename_i h; subst h; rfl
  · rfl
theorem cells?_at {a : Addr} {n : Nat} {cs : List Value} (h : w.cells? base a n = some cs) : base ≤ a.block ∧ cs.length = n ∧ ∀ i, i < n → w.cell? (a.add i) = cs[i]? := by
  unfold World.cells? at h
  split at h
  · rename_i hb
    have h1 := mapM_some_length h
    have h2 := mapM_some_get h
    rw [List.length_range] at h1
    exact ⟨hb, h1, fun i hi => h2 i i (by rw [List.getElem?_range hi])⟩
  · cases h
end
end Go
end

section
namespace Go
open Go.RowKit
set_option linter.unusedSimpArgs false
section
variable {H : Type} {enc : TypeId × Value → H} {P : Program} {w : World} {base : Nat} {spare : Nat → Bool} {held : Bool}
theorem slice_of_trod {t e : TypeId} {cs0 : List Value} {fuel : Nat} {x : DataW H × List MemPlace} (d : Nat) (ls : List Leaf) (ht : P.underlying t = some (.slice e)) (hl : layout P d e = some ls) (hpos : 0 < ls.length)
    (hf : DataW.trod enc P w base spare held fuel t cs0 = some x) :
    ∃ A len cap, cs0 = [.slice A len cap] ∧ len ≤ cap ∧ cap ≤ maxLen ∧ (A = none → len = 0 ∧ cap = 0) ∧ (0 < len → ∃ b off, A = some ⟨b, off, none⟩ ∧ base ≤ b ∧ b < w.heap.size ∧ ∀ i, i < len → ∃ cs : List Value, fitAllW ls cs = true ∧ ∀ j, j < ls.length → w.cell? ⟨b, off + i * ls.length + j, none⟩ = cs[j]?) := by
  rcases DataW.trod_slice ht hf with ⟨hcs, _⟩ | ⟨a, len, cap, elems, rest, n, _, hcs, _, hb, hle, hm, hlen, hel, _, _⟩
  · exact ⟨none, 0, 0, hcs, Nat.le_refl _, by unfold maxLen; omega, fun _ => ⟨rfl, rfl⟩, fun h => absurd h (by omega)⟩
  · refine ⟨some a, len, cap, hcs, hle, hm, (fun h => by cases h), fun hp => ?_⟩
    have hce := layout_cells hl
    have each : ∀ i, i < len → ∃ cs : List Value, fitAllW ls cs = true ∧ ∀ j, j < ls.length → w.cell? ((a.add (i * ls.length)).add j) = cs[j]? := fun i hi => by
      have h1 := hel i hi
      rw [List.getElem?_eq_getElem (by omega)] at h1
      obtain ⟨cs, h2, h3⟩ := Option.bind_eq_some_iff.1 h1
      rw [hce] at h2
      obtain ⟨_, h4, h5⟩ := cells?_at h2
      exact ⟨cs, flat_of_trod d n e ls cs _ hl h3, h5⟩
    have hs : a.spot = none ∧ a.block < w.heap.size := by
      obtain ⟨cs, h1, h2⟩ := each 0 hp
      have h3 := h2 0 hpos
      have h4 := fitAllW_length h1
      rw [List.getElem?_eq_getElem (by omega)] at h3
      have e : (a.add (0 * ls.length)).add 0 = a := by simp [Addr.add]
      rw [e] at h3
      refine ⟨?_, World.block_lt_of_cell? w a h3⟩
      unfold World.cell? at h3
      split at h3
      · split at h3
        · cases h3
        · rename_i hh
          cases hsp : a.spot with
          | none => rfl
          | some x => rw [hsp] at hh; simp at hh
      · cases h3
    obtain ⟨b, off, sp⟩ := a
    obtain ⟨hs1, hs2⟩ := hs
    simp only at hs1 hs2
    subst hs1
    refine ⟨b, off, rfl, hb, hs2, fun i hi => ?_⟩
    obtain ⟨cs, h1, h2⟩ := each i hi
    refine ⟨cs, h1, fun j hj => ?_⟩
    have e : ((⟨b, off, none⟩ : Addr).add (i * ls.length)).add j = ⟨b, off + i * ls.length + j, none⟩ := by
      rw [addr_add, addr_add]
    rw [← e]
    exact h2 j hj
theorem agg_of {r : Go.Reach} {b0 : Nat} {t : TypeId} {v : Value} (ha : isAggB P t = true) (hv : Value.okWide P w r b0 t v) : ∃ cs, v = .agg cs := by
  unfold isAggB at ha
  unfold Value.okWide at hv
  split at ha <;> simp_all
  · obtain ⟨cs, h, _⟩ := hv; exact ⟨cs, h⟩
  · obtain ⟨cs, h, _⟩ := hv; exact ⟨cs, h⟩
end
end Go
namespace Go.Proofs.YtbcdnbbpkikppaaDoor
open Go.RowKit
theorem cellsBy : Tryd.prog.cellsOf 22 = 1 := by kernel_rfl
theorem cellsU8 : Tryd.prog.cellsOf 5 = 1 := by kernel_rfl
theorem cellsP8 : Tryd.prog.cellsOf 24 = 10 := by kernel_rfl
theorem cellsAk : Tryd.prog.cellsOf TAk = 13 := by kernel_rfl
theorem layU8 : layout Tryd.prog 3 5 = some [.int .u8] := by kernel_rfl
theorem layP8 : layout Tryd.prog 4 24 = some ((List.range 10).map fun _ => Leaf.int .u8) := by kernel_rfl
set_option maxRecDepth 100000 in
theorem open_ask {H : Type} {enc : TypeId × Value → H} {w : World} {base : Nat} {spare : Nat → Bool} {held : Bool} {r : Go.Reach} {b0 : Nat} {v : Value} {dd : DataW H} {p : List MemPlace}
    (hv : Value.okWide Tryd.prog w r b0 TAk v) (h : DataW.Trod enc Tryd.prog w base spare held TAk v dd p) :
    ∃ (A : Option Addr) (n cap : Nat) (sz ch : Int) (pr b : Nat → Int), v = .agg (av 13 (askC A n cap sz ch pr)) ∧ n ≤ cap ∧ (A = none → n = 0 ∧ cap = 0) ∧ (0 ≤ sz ∧ sz ≤ 255) ∧ (0 ≤ ch ∧ ch ≤ 255) ∧ (∀ j, j < 10 → 0 ≤ pr j ∧ pr j ≤ 255) ∧ BytesAt A n b w := by
  obtain ⟨fuel, hf⟩ := h
  have hcs : ∃ cs, v = .agg cs := agg_of (by kernel_rfl) hv
  obtain ⟨cs, rfl⟩ := hcs
  obtain ⟨y0, y1, y2, y3, n, -, hlen, h0, h1, h2, h3⟩ := Go.Joins.trod_struct4 (cs := cs.toList) Tryd.underlying26 (by simpa [Value.cells] using hf)
  rw [cellsAk] at hlen
  simp only [cellsBy, cellsU8, cellsP8] at h0 h1 h2 h3
  obtain ⟨A, len, cap, e0, hle, -, hA, hby⟩ := slice_of_trod 3 [.int .u8] Tryd.underlying22 layU8 (by decide) h0
  have f1 := flat_of_trod 3 n _ _ _ _ layU8 h1
  have f2 := flat_of_trod 3 n _ _ _ _ layU8 h2
  have f3 := flat_of_trod 4 n _ _ _ _ layP8 h3
  obtain ⟨sz, g1, w1⟩ := fitAllW_at 0 .u8 f1 rfl
  obtain ⟨ch, g2, w2⟩ := fitAllW_at 0 .u8 f2 rfl
  have hpr : ∀ j, j < 10 → ∃ x, cs.toList[3 + j]? = some (.int .u8 x) ∧ 0 ≤ x ∧ x ≤ 255 := fun j hj => by
    obtain ⟨x, g3, w3⟩ := fitAllW_at j .u8 f3 (by simp [hj])
    rw [List.getElem?_take_of_lt hj, List.getElem?_drop] at g3
    exact ⟨x, g3, wf_u8 w3⟩
  rw [List.getElem?_take_of_lt (by omega), List.getElem?_drop] at g1 g2
  have g0 : cs.toList[0]? = some (.slice A len cap) := by
    have := congrArg (fun l => l[0]?) e0
    rw [List.getElem?_take_of_lt (by omega), List.getElem?_drop] at this
    exact this
  refine ⟨A, len, cap, sz, ch, fun j => intOf ((cs.toList[3 + j]?).getD undef), fun i => intOf ((match A with | some a => w.cell? ⟨a.block, a.off + i, none⟩ | none => none).getD undef), ?_, hle, hA, wf_u8 w1, wf_u8 w2, fun j hj => ?_, fun hp => ?_⟩
  · congr 1
    apply Array.ext'
    rw [av_toList]
    apply List.ext_getElem?
    intro i
    by_cases hi : i < 13
    · rw [List.getElem?_map, List.getElem?_range hi, Option.map_some]
      unfold askC
      by_cases i0 : i = 0
      · subst i0; rw [if_pos rfl]; exact g0
      · rw [if_neg i0]
        by_cases i1 : i = 1
        · subst i1; rw [if_pos rfl]; exact g1
        · rw [if_neg i1]
          by_cases i2 : i = 2
          · subst i2; rw [if_pos rfl]; exact g2
          · rw [if_neg i2]
            obtain ⟨x, hx, -⟩ := hpr (i - 3) (by omega)
            rw [show 3 + (i - 3) = i by omega] at hx
            rw [hx]
            simp only
            rw [show 3 + (i - 3) = i by omega, hx]
            rfl
    · rw [List.getElem?_eq_none (by omega), List.getElem?_eq_none (by simp; omega)]
  · obtain ⟨x, hx, hb⟩ := hpr j hj
    simp only
    rw [hx]
    exact hb
  · obtain ⟨b, off, rfl, -, hb, hc⟩ := hby hp
    refine ⟨b, off, rfl, hb, fun i hi => ?_⟩
    obtain ⟨xs, k1, k2⟩ := hc i hi
    obtain ⟨x, k3, k4⟩ := fitAllW_at 0 .u8 k1 rfl
    have k5 := k2 0 (by decide)
    rw [k3] at k5
    rw [show off + i * [Leaf.int IntKind.u8].length + 0 = off + i from by simp] at k5
    simp only [k5]
    exact ⟨rfl, wf_u8 k4⟩
end Go.Proofs.YtbcdnbbpkikppaaDoor
end

section
namespace Go
open Go.RowKit Go.ChangeShapes Go.WideShapes
/-- All arguments read again. -/
theorem trodAll_below {H : Type} {enc : TypeId × Value → H} {P : Program} (hl : laidOutB P = true) {W W' : World} (hb : Below W.heap.size W W') :
    ∀ (ts : List TypeId) (vs : List Value) (ds : List (DataW H)) (ps : List MemPlace), (ts.all fun t => P.readableRec t && decide (t < P.types.size)) = true →
      DataW.TrodAll enc P W 0 (fun _ => true) true ts vs ds ps → (∀ x ∈ ps, x.block < W.heap.size) → DataW.TrodAll enc P W' 0 (fun b => decide (b < W.heap.size)) true ts vs ds ps
  | [], vs, ds, ps, _, h, _ => by
    obtain ⟨rfl, rfl, rfl⟩ := trodAll_nil h
    exact trodAll_mk0
  | t :: ts, vs, ds, ps, hr, h, hlt => by
    simp only [List.all_cons, Bool.and_eq_true, decide_eq_true_eq] at hr
    obtain ⟨v, vs', d, ds', p, q, rfl, rfl, rfl, h1, h2⟩ := trodAll_cons h
    exact trodAll_cons_mk (Below.trod hl hr.1.1 hr.1.2 h1 hb (fun x hx => hlt x (List.mem_append_left _ hx))) (trodAll_below hl hb ts vs' ds' q hr.2 h2 (fun x hx => hlt x (List.mem_append_right _ hx)))
end Go
end

section
namespace Go.Proofs.YtbcdnbbpkikppaaDoor
open Go.ChangeShapes Go.WideShapes Go.ChangeAt Go.WideMaps Go.WideElems Go.RowKit
theorem guesses_any (A : Option Addr) (n cap : Nat) (sz8 ch8 : Int) (pr : Nat → Int) (hpr : ∀ j, j < 10 → 0 ≤ pr j ∧ pr j ≤ 255) (it : Bool) (o0 o1 o2 o3 : Int) (h2b : -9223372036854775808 ≤ o2 ∧ o2 ≤ 9223372036854775807) (w : World) :
    Calls Tryd.prog 3 #[.agg (av 13 (askC A n cap sz8 ch8 pr)), .bool it, .agg #[.int .i64 o0, .int .i64 o1, .int .i64 o2, .int .i64 o3]] w fun e w' => e = .returned (.bool true) ∧ Below w.heap.size w w' := by
  cases it
  · exact guesses_false A n cap sz8 ch8 pr hpr o0 o1 o2 o3 h2b w
  · exact guesses_true A n cap sz8 ch8 pr hpr o0 o1 o2 o3 h2b w
set_option maxRecDepth 100000 in
theorem frameGuesses_lifted (os : Os) (started : os.Started) (H : Type) (enc : TypeId × Value → H) :
    ReturnsInHanded {} Tryd.checked os 3 .any (fun w args => (Rows.frameGuessesSpec.pre enc Tryd.prog Tryd.f3 [] false w args ∧ laidMetH Tryd.prog Rows.frameGuessesRow.laid w) ∧ sizedMet enc Tryd.prog Tryd.f3 (OpenSpec.ofChange Rows.frameGuessesSpec) false w args)
      (Rows.frameGuessesSpec.post enc Tryd.prog Tryd.f3 false true false false) := by
  refine returnsInHanded_of_change_and (C := Tryd.checked) (X := fun w _ => laidMetH Tryd.prog Rows.frameGuessesRow.laid w) (fun _ _ _ hh h => h.of_heap hh) (by kernel_rfl) started (by kernel_rfl) Tryd.func3
    (ChangeSpec.witness_shaped (enc := enc) (C := Tryd.checked) (os := os) (X := fun w _ => laidMetH Tryd.prog Rows.frameGuessesRow.laid w) false (World.doorLaid Tryd.prog 400 os) #[.agg #[.slice none 0 0, .int .u8 0, .int .u8 0, .int .u8 0, .int .u8 0, .int .u8 0, .int .u8 0, .int .u8 0, .int .u8 0, .int .u8 0, .int .u8 0, .int .u8 0, .int .u8 0], .bool false, .agg #[.int .i64 0, .int .i64 0, .int .i64 0, .int .i64 0]] 8 rfl (World.shaped_of_RefB (by kernel_rfl) (by kernel_rfl)) (by kernel_rfl) (by kernel_rfl) (by kernel_rfl)
      (laidMetH_of_parts3 (fuel := 8) (laidMet_of_run' 8 (by kernel_rfl) (by kernel_rfl)) (by kernel_rfl) (by kernel_rfl))) ?_
  intro W base args ds gs before hval0 hW _ _ hL _
  have hval : ∀ (j : Nat) t v, Tryd.f3.params[j]? = some t → args[j]? = some v → Value.okWide Tryd.prog W .any base t v := hval0
  have hW' := hW
  obtain ⟨p, q, hA0, hV, rfl, hfz, hnd⟩ := hW
  have hA : DataW.TrodAll enc Tryd.prog W 0 (fun _ => true) true Tryd.f3.params.toList args.toList ds p := hA0
  have hA2 := hA
  rw [Tryd.params3] at hA hval
  obtain ⟨v0, v1, v2, d0, d1, d2, p0, p1, p2, rfl, rfl, hp, h0, h1, h2⟩ := trodAll_three hA
  obtain ⟨rfl, rfl⟩ := trodVars_none hV
  obtain ⟨A, n, cap, sz, ch, pr, b, rfl, hle, hAn, -, -, hpr, hby⟩ := open_ask (hval 0 26 v0 rfl rfl) h0
  obtain ⟨it, rfl, rfl, hp1⟩ := open_bool Tryd.underlying4 (hval 1 4 v1 rfl rfl) h1
  obtain ⟨cs, rfl, hfit⟩ := open_flat 3 [.int .i64, .int .i64, .int .i64, .int .i64] (by kernel_rfl) (by kernel_rfl) (hval 2 27 v2 rfl rfl) h2
  obtain ⟨o0, cs1, rfl, w0, hfit⟩ := fitAllW_int hfit
  obtain ⟨o1, cs2, rfl, w1, hfit⟩ := fitAllW_int hfit
  obtain ⟨o2, cs3, rfl, w2, hfit⟩ := fitAllW_int hfit
  obtain ⟨o3, cs4, rfl, w3, hfit⟩ := fitAllW_int hfit
  obtain rfl := fitAllW_nil hfit
  simp only [List.append_nil] at hW'
  refine (guesses_any A n cap sz ch pr hpr it o0 o1 o2 o3 (bounds_i64 w2) W).mono fun e W' ⟨he, hb⟩ => ?_
  subst he
  have e1 : Rows.frameGuessesSpec.fn H ([d0, .lit (.bool it), d2] ++ []) = { results := [.lit (.bool true)], args := [d0, .lit (.bool it), d2] } := by simp [Rows.frameGuessesSpec]
  refine ⟨_, rfl, _, _, _, [], p, [], hW', ?_, ?_, ?_, hb.frame _, fun h => by cases h⟩
  · rw [e1]; exact trodAll_mk1 (shut_bool Tryd.underlying4 _)
  · rw [e1]; exact trodAll_below (by kernel_rfl) hb _ _ _ _ (by kernel_rfl) hA2 (fun x hx => by simpa using hW'.lt x (by simpa using hx))
  · rw [e1]; rfl
theorem frameGuesses_holds : Rows.FrameGuessesSaid :=
  OpenClaim.holds_of_wide 3 Tryd.f3 rfl rfl rfl rfl rfl rfl rfl ⟨rfl, rfl, rfl, rfl, rfl⟩ rfl rfl rfl rfl rfl (by kernel_rfl) Tryd.func3 (by kernel_rfl)
    (of_decide_eq_true (by kernel_rfl)) (by unfold Func.isWrapper; rw [if_neg (of_decide_eq_false (by kernel_rfl))]; exact ⟨rfl, rfl⟩)
    (fun os started H enc _ => frameGuesses_lifted os started H enc)
theorem frameGuesses_card : Rows.FrameGuessesCardSaid :=
  Claim7.holds_tied_plain_at .later [] [.data, .data] true (true, "6fd3cef4739abb337087ac194f61d7bdfcbfdad02058d565ba37ec2937ba1477") false
    frameGuesses_holds (fun _ h => by cases h) (by kernel_rfl) (fun _ h => by cases h) frameGuesses_row_tie rfl ⟨rfl, rfl⟩ (by kernel_rfl) rfl
    (fun f fn hf hfn => by
      obtain rfl : f = 3 := Option.some.inj ((show Tryd.prog.funcNamed "spinet/spinetlaw16.FrameGuesses" = some 3 by kernel_rfl).symm.trans hf) |>.symm
      obtain rfl : fn = Tryd.f3 := (Option.some.inj (Tryd.func3.symm.trans hfn)).symm
      exact ⟨by kernel_rfl, fun j t ht => by
        rw [Tryd.params3] at ht
        have hm : t ∈ [26, 4, 27] := by simpa using Array.mem_of_getElem? ht
        have hall : ([26, 4, 27].all fun u => !Tryd.prog.wantsStandIn u) = true := by kernel_rfl
        exact (show Tryd.prog.wantsStandIn t = false by simpa using List.all_eq_true.1 hall t (by simpa using hm))⟩)
    (by kernel_rfl)
end Go.Proofs.YtbcdnbbpkikppaaDoor
end

