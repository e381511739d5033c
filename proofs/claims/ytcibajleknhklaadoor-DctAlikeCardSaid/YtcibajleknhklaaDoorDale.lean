/-
  DctAlike: What makes samples in place makes those of Plain, again and again; of another length it makes none.
  (One text out of these parts: DctL, FlatS, Law, LaidC, DctAlikeRow.)
-/
import Derived.Test.YtcibajleknhklaaDoorDald
import Derived.DataReads
import Derived.ProofKit
import Derived.LaidMore
import Derived.OpenShut
import Derived.Stop.Joined
import Derived.Lib.LaidTab
import Derived.Test.YtcibajleknhklaaDoorRows
import Derived.Test.YtcibajleknhklaaDoorCards
import Derived.Test.YtcibajleknhklaaDoorTie
import Derived.SevenTiedAt
section
namespace Go.Proofs.YtcibajleknhklaaDoor
open Go.RowKit Go.BigFrame Go.Proofs.YtcibajleknhklaaDoorW.PrintWords Go.Proofs.YtcibajleknhklaaDoorW.PrintLast Go.Proofs.YtcibajleknhklaaDoorW.PrintMore
open PDctAlike RDctAlike
set_option linter.unusedSimpArgs false
set_option linter.unusedVariables false
theorem wide18_l0 (l : List Int) (hl : l.length ≤ 100000) (hb : ∀ i, -2147483648 ≤ l.getD i 0 ∧ l.getD i 0 ≤ 2147483647) : ∀ (d k i : Nat), i + d = l.length → d < k → spinetlaw18_Wide.l0 k (l.take i) l (l.length : Int) (i : Int) = some l
  | 0, k, i, h, hk => by
    obtain ⟨k, rfl⟩ : ∃ m, k = m + 1 := ⟨k - 1, by omega⟩
    rw [spinetlaw18_Wide.l0, if_neg (by omega), List.take_of_length_le (by omega)]
  | d + 1, k, i, h, hk => by
    obtain ⟨k, rfl⟩ : ∃ m, k = m + 1 := ⟨k - 1, by omega⟩
    have hbi := hb i
    rw [spinetlaw18_Wide.l0, if_pos (by omega), if_pos (by omega), if_pos (by omega), if_pos (by rw [List.length_take]; omega), rd_nat, w64_id (by omega) (by omega), show wrap64 ((i : Int) + 1) = ((i + 1 : Nat) : Int) from w64_id (by omega) (by omega)]
    have e : l.take i ++ [l.getD i 0] = l.take (i + 1) := by
      rw [List.take_add_one, List.getD_eq_getElem?_getD, List.getElem?_eq_getElem (by omega)]; rfl
    rw [e]
    exact wide18_l0 l hl hb d k (i + 1) (by omega) (by omega)
theorem wide18_f (l : List Int) (hl : l.length ≤ 100000) (hb : ∀ i, -2147483648 ≤ l.getD i 0 ∧ l.getD i 0 ≤ 2147483647) : spinetlaw18_Wide.f 100002 l = some l := by
  unfold spinetlaw18_Wide.f
  exact wide18_l0 l hl hb l.length _ 0 (by omega) (by omega)
theorem same18_l0 (l : List Int) (hl : l.length ≤ 100000) (hb : ∀ i, -2147483648 ≤ l.getD i 0 ∧ l.getD i 0 ≤ 2147483647) : ∀ (d k i : Nat), i + d = l.length → d < k → spinetlaw18_Same.l0 k l l (l.length : Int) (i : Int) = some true
  | 0, k, i, h, hk => by
    obtain ⟨k, rfl⟩ : ∃ m, k = m + 1 := ⟨k - 1, by omega⟩
    rw [spinetlaw18_Same.l0, if_neg (by omega)]
  | d + 1, k, i, h, hk => by
    obtain ⟨k, rfl⟩ : ∃ m, k = m + 1 := ⟨k - 1, by omega⟩
    have hbi := hb i
    rw [spinetlaw18_Same.l0, if_pos (by omega), if_pos (by omega), if_pos (by omega), if_pos (by omega), rd_nat, if_pos (w64_id (by omega) (by omega)), show wrap64 ((i : Int) + 1) = ((i + 1 : Nat) : Int) from w64_id (by omega) (by omega)]
    exact same18_l0 l hl hb d k (i + 1) (by omega) (by omega)
theorem same18_f (l : List Int) (hl : l.length ≤ 100000) (hb : ∀ i, -2147483648 ≤ l.getD i 0 ∧ l.getD i 0 ≤ 2147483647) : spinetlaw18_Same.f 100002 l l = some true := by
  unfold spinetlaw18_Same.f
  rw [if_pos rfl]
  exact same18_l0 l hl hb l.length _ 0 (by omega) (by omega)
def lst (n : Nat) (f : Nat → Int) : List Int := (List.range n).map f
theorem lst_len (n : Nat) (f : Nat → Int) : (lst n f).length = n := by simp [lst]
theorem lst_at (n : Nat) (f : Nat → Int) (i : Nat) : (lst n f).getD i 0 = if i < n then f i else 0 := by
  unfold lst
  rw [List.getD_eq_getElem?_getD]
  by_cases h : i < n
  · rw [if_pos h]; simp [h]
  · rw [if_neg h]; simp [h]
theorem lst_bd (n : Nat) (f : Nat → Int) (hf : ∀ i, i < n → -2147483648 ≤ f i ∧ f i ≤ 2147483647) (i : Nat) : -2147483648 ≤ (lst n f).getD i 0 ∧ (lst n f).getD i 0 ≤ 2147483647 := by
  rw [lst_at]
  by_cases h : i < n
  · rw [if_pos h]; exact hf i h
  · rw [if_neg h]; decide
/-- A row that is read. -/
theorem r32_C {g N n : Nat} {T : TypeId} {f : Nat → Int} {w : World} (h : R32 g N n T f w) (hn : n ≤ 1000000) : Kd.C (Kd.int .i32) w (some ⟨g, 0, none⟩) (lst n f).length (lst n f) := by
  refine ⟨rfl, by rw [lst_len]; omega, fun hp => ⟨_, rfl, fun j p hj => ⟨[.int .i32 p], rfl, rfl, fun i u hu => ?_⟩⟩⟩
  have hj' : j < n := by
    have := (List.getElem?_eq_some_iff.1 hj).1
    rwa [lst_len] at this
  unfold lst at hj
  simp only [List.getElem?_map, List.getElem?_range hj', Option.map_some, Option.some.injEq] at hj
  subst hj
  cases i with
  | zero =>
    obtain rfl : Value.int .i32 (f j) = u := by simpa using hu
    have e : (⟨g, 0, none⟩ : Addr).add (j * (Kd.int .i32).sz + 0) = ⟨g, j, none⟩ := by
      have : j * (Kd.int .i32).sz + 0 = j := by show j * 1 + 0 = j; omega
      rw [this]; unfold Addr.add; split <;> simp_all
    rw [e]
    exact (h.cell j hj').1
  | succ i => simp at hu
theorem addr_C {B : Option Addr} {m : Nat} {f : Nat → Int} {w : World} (hB : 0 < m → ∃ b off, B = some ⟨b, off, none⟩ ∧ ∀ i, i < m → w.cell? ⟨b, off + i, none⟩ = some (.int .i32 (f i))) (hm : m ≤ 1000000) : Kd.C (Kd.int .i32) w B (lst m f).length (lst m f) := by
  refine ⟨rfl, by rw [lst_len]; omega, fun hp => ?_⟩
  rw [lst_len] at hp
  obtain ⟨b, off, rfl, hc⟩ := hB hp
  refine ⟨_, rfl, fun j p hj => ⟨[.int .i32 p], rfl, rfl, fun i u hu => ?_⟩⟩
  have hj' : j < m := by
    have := (List.getElem?_eq_some_iff.1 hj).1
    rwa [lst_len] at this
  unfold lst at hj
  simp only [List.getElem?_map, List.getElem?_range hj', Option.map_some, Option.some.injEq] at hj
  subst hj
  cases i with
  | zero =>
    obtain rfl : Value.int .i32 (f j) = u := by simpa using hu
    have e : (⟨b, off, none⟩ : Addr).add (j * (Kd.int .i32).sz + 0) = ⟨b, off + j, none⟩ := by
      have : j * (Kd.int .i32).sz + 0 = j := by show j * 1 + 0 = j; omega
      rw [this]; unfold Addr.add; split <;> simp_all
    rw [e]
    exact hc j hj'
  | succ i => simp at hu
theorem in_short (s : Nat) (h1 : 2 ≤ s) (h2 : s ≤ 4) (db zb gb pb ob : Nat) (tvp tv : Value) (A : Option Addr) (m c : Nat) (w : World) (hD : DctR db zb gb pb ob tvp tv s w) (hm : m ≠ 2 ^ (s + 1)) :
    Calls Tryd.prog 42 #[.pointer (some ⟨db, 0, none⟩), .slice A m c] w fun e w' => e = .returned (.bool false) ∧ Below w.heap.size w w' := by
  have hpn : w.cell? ⟨pb, 0, none⟩ = some (.slice (some ⟨ob, 0, none⟩) (2 ^ s) (2 ^ s)) := by rw [(block_facts hD.plan.st).1]; rfl
  have c0 := (block_facts hD.st).1 0
  have hdl := (block_facts hD.st).2.2
  obtain ⟨n, hn⟩ : ∃ n : Nat, 2 ^ (s + 1) = n := ⟨_, rfl⟩
  obtain ⟨h, hh⟩ : ∃ h : Nat, 2 ^ s = h := ⟨_, rfl⟩
  have hnh : n = h + h := by rw [← hn, ← hh, Nat.pow_succ]; omega
  have hn8 : 8 ≤ n ∧ n ≤ 32 := by
    rcases dct_s s h1 h2 with rfl | rfl | rfl <;> (rw [← hn]; decide)
  rw [hn] at hm
  rw [hh] at hpn
  have h2n : 2 * (h : Int) = (n : Int) := by omega
  have HPN := Lib.hid (planN_any pb h h (some ⟨ob, 0, none⟩) (by omega) w hpn)
  simp only [List.getElem?_toArray, List.getElem?_cons_zero, List.getElem?_cons_succ] at c0
  have hne : ((m : Int) != (n : Int)) = true := bne_iff_ne.mpr (by omega)
  have w1' : (2 * (h : Int) + 9223372036854775808) % 18446744073709551616 - 9223372036854775808 = 2 * (h : Int) := by omega
  have w2' : ((n : Int) + 9223372036854775808) % 18446744073709551616 - 9223372036854775808 = (n : Int) := by omega
  clear hnh hn hh hpn hm hD
  go_enter Tryd.func42, Tryd.ntmps42
  go_wp2_with fail
  refine HPN.out.mono ?_
  rintro e w1 ⟨rfl, hb1⟩
  have HB1 := Lib.hid hb1
  clear hb1
  go_wp2_with fail
  go_ret
  exact ⟨rfl, HB1.out⟩
theorem wideSame (l : List Int) (hl : l.length ≤ 100000) (hb : ∀ i, -2147483648 ≤ l.getD i 0 ∧ l.getD i 0 ≤ 2147483647) :
    (∀ (A : Option Addr) (c : Nat) (w : World), Kd.C (Kd.int .i32) w A l.length l → l.length ≤ c → Calls Tryd.prog 44 #[.slice A l.length c] w fun e w' => ∃ v, e = .returned v ∧ Kd.R (Kd.int .i64) 2 w' w.heap.size (fun _ => True) v l ∧ Below w.heap.size w w') ∧
    (∀ (A : Option Addr) (c : Nat) (A1 : Option Addr) (c1 : Nat) (w : World), Kd.C (Kd.int .i32) w A l.length l → l.length ≤ c → Kd.C (Kd.int .i64) w A1 l.length l → l.length ≤ c1 → Calls Tryd.prog 43 #[.slice A l.length c, .slice A1 l.length c1] w fun e w' => e = .returned (.bool true) ∧ Below w.heap.size w w') :=
  ⟨fun A c w h1 h2 => spinetlaw18_Wide.calls _ A c l l w h1 h2 (wide18_f l hl hb), fun A c A1 c1 w h1 h2 h3 h4 => (spinetlaw18_Same.calls _ A c l A1 c1 l true w h1 h2 h3 h4 (same18_f l hl hb)).mono fun e w' h => ⟨h.1, h.2.below⟩⟩
theorem i32Info : (Tryd.prog.info? 21).map (fun i => (i.zero, i.size, i.bytes)) = some (some (.int .i32 0), 1, 4) := by kernel_rfl
theorem info32 : (Tryd.prog.info? T32).map (·.size) = some 32 := by kernel_rfl
theorem news_k {Z W : World} {xb n N : Nat} {T : TypeId} {κ : Nat → IntKind} {f : Nat → Int} (h : Bx xb T κ N f Z) (hn : n ≤ N) (hw : W.heap[xb]? = Z.heap[xb]?) : ∀ j u, (ag κ n f).toList[j]? = some u → W.cell? ((⟨xb, 0, none⟩ : Addr).add j) = some u := by
  intro j u hj
  have h2 : j < n := by have := (List.getElem?_eq_some_iff.1 hj).1; rw [Array.length_toList, ag_size] at this; exact this
  rw [Array.getElem?_toList, ag_get κ _ f j h2] at hj
  rw [Addr.add_lit, Nat.zero_add, cell_of_block hw, (block_facts h).1, ag_get κ N f j (by omega)]
  exact hj
theorem own_r32 {w : World} {base n g c : Nat} {T : TypeId} {f : Nat → Int} (h : w.ownsRow base T 1 (.slice (some ⟨g, 0, none⟩) n c) n (ag k32 n f).toList) : ∃ N, R32 g N n T f w ∧ n ≤ c := by
  obtain ⟨a, ⟨b, -⟩ | ⟨g', cap, cur, b1, b2, b3, b4, b5, b6, b7⟩⟩ := h
  · cases b
  · cases b1
    refine ⟨cur.size, ⟨cur, b3, rfl, fun i hi => ?_⟩, b4⟩
    have e : (cur.toList.take (n * 1))[i]? = (ag k32 n f).toList[i]? := by rw [b7]
    rw [List.getElem?_take, if_pos (by omega), Array.getElem?_toList, Array.getElem?_toList, ag_get k32 n f i hi] at e
    exact e
theorem DctR.keep {db zb gb pb ob s : Nat} {tvp tv : Value} {w w' : World} (h : DctR db zb gb pb ob tvp tv s w) (hb : Below w.heap.size w w') : DctR db zb gb pb ob tvp tv s w' := by
  obtain ⟨dst, ⟨f0, dz⟩, ⟨X0, dg⟩, dpl, down, a1, a2, a3, a4, a5, a6⟩ := h
  exact ⟨(hb.block db (block_facts dst).2.2).trans dst, ⟨f0, dz.keep hb⟩, ⟨X0, dg.keep hb⟩, dpl.keep hb, ownsRow_below down hb, a1, a2, a3, a4, a5, a6⟩
theorem DctR.lt {db zb gb pb ob s : Nat} {tvp tv : Value} {w : World} (h : DctR db zb gb pb ob tvp tv s w) : db < w.heap.size ∧ zb < w.heap.size ∧ gb < w.heap.size ∧ pb < w.heap.size ∧ ob < w.heap.size ∧ (∀ k, tvp.ownBlock = some k → k < w.heap.size) ∧ (∀ k, tv.ownBlock = some k → k < w.heap.size) := by
  obtain ⟨dst, ⟨f0, dz⟩, ⟨X0, dg⟩, dpl, down, -⟩ := h
  exact ⟨(block_facts dst).2.2, (block_facts dz).2.2, (block_facts dg).2.2, (block_facts dpl.st).2.2, (block_facts dpl.ord).2.2, fun k hk => (own_lt' dpl.own k hk).2, fun k hk => (own_lt' down k hk).2⟩
theorem slice_none {H : Type} {enc : TypeId × Value → H} {P : Program} {w : World} {base : Nat} {spare : Nat → Bool} {held : Bool} {r : Reach} {b0 : Nat} {t e : TypeId} {v : Value} {dd : DataW H} {p : List MemPlace} (ht : P.underlying t = some (.slice e))
    (hv : Value.okWide P w r b0 t v) (h : DataW.Trod enc P w base spare held t v dd p) : ∀ A len cap, v = .slice A len cap → A = none → len = 0 ∧ cap = 0 := by
  obtain ⟨fuel, hf⟩ := h
  have hne : v.cells.toList = [v] := by
    cases v with
    | agg cs => simp [Value.okWide, ht, Cell.okWide, Cell.ok] at hv
    | _ => rfl
  rw [hne] at hf
  intro A len cap e1 e2
  rcases DataW.trod_slice ht hf with ⟨hcs, _⟩ | ⟨a, len', cap', elems, rest, n, _, hcs, _⟩
  · have e3 : v = .slice none 0 0 := by simpa using hcs
    rw [e3] at e1
    injection e1 with q1 q2 q3
    exact ⟨q2.symm, q3.symm⟩
  · have e3 : v = .slice (some a) len' cap' := by simpa using hcs
    rw [e3] at e1
    injection e1 with q1 q2 q3
    rw [e2] at q1
    cases q1
theorem append_args {ops : Array Oper} {rest : List Oper} {o : Oper} {a : Act} {Q : Exit → Act → World → Prop} {Z : World} (hgd : o.guard = none) (s x : Operand)
    (ho : o.op = .call { callee := .builtin .append, args := #[s, x], argTypes := #[43, 43] }) (hs : a.eval s = .slice (some ⟨Z.heap.size, 0, none⟩) 0 0) (B : Option Addr) (m mc : Nat) (hx : a.eval x = .slice B m mc) (f : Nat → Int)
    (hB : 0 < m → ∃ b off, B = some ⟨b, off, none⟩ ∧ b < Z.heap.size ∧ ∀ i, i < m → Z.cell? ⟨b, off + i, none⟩ = some (.int .i32 (f i))) (hBn : B = none → m = 0 ∧ mc = 0) (hm : m ≤ 40)
    (h : ∀ g c N w', Z.heap.size ≤ g → R32 g N m 21 f w' → m ≤ c → Below Z.heap.size Z w' → wpList Tryd.prog ops Q rest (a.put o.dst (.slice (some ⟨g, 0, none⟩) m c)) w') :
    wpList Tryd.prog ops Q (o :: rest) a (Z.alloc (.cells #[] 21)) := by
  obtain ⟨i0, hi0, hz0, hz1, hz2⟩ := info_parts i32Info
  have fin : ∀ v' w', w'.ownsRow Z.heap.size 21 1 v' m (ag k32 m f).toList → (Z.alloc (.cells #[] 21)).grownBy w' (some Z.heap.size) → (∃ g c, v' = .slice (some ⟨g, 0, none⟩) m c ∧ Z.heap.size ≤ g) → wpList Tryd.prog ops Q rest (a.put o.dst v') w' := by
    rintro v' w' hown hgr ⟨g, c, rfl, hg⟩
    obtain ⟨N, hR, hc⟩ := own_r32 hown
    exact h g c N w' hg hR hc ⟨hgr.os, hgr.tape, hgr.output, Nat.le_trans (by simp) hgr.size, fun i hi => (hgr.block i (by simp; omega) (fun e => by injection e with e; omega)).trans (alloc_old _ _ _ hi)⟩
  by_cases h0 : 0 < m
  · obtain ⟨b, off, rfl, hb, hc⟩ := hB h0
    refine wpList_append_own_at (w := Z.alloc (.cells #[] 21)) hgd s x 43 ho Z.heap.size 21 i0 (.int .i32 0) 1 4 Tryd.underlying43 hi0 hz0 hz1 hz2 rfl (by decide) (.slice (some ⟨Z.heap.size, 0, none⟩) 0 0) 0 [] hs (empty_own _ _ _) ⟨b, off, none⟩ m mc (ag k32 m f).toList hx (by rw [Array.length_toList, ag_size]; omega) ?_ (fun u hu => Array.all_eq_true_iff_forall_mem.1 (ag_one k32 _ _) u (by simpa using hu)) (maxLen_le (by omega)) (by omega) (by simp) ?_
    · intro j u hj
      have h2 : j < m := by have := (List.getElem?_eq_some_iff.1 hj).1; rw [Array.length_toList, ag_size] at this; exact this
      rw [Array.getElem?_toList, ag_get k32 _ f j h2] at hj
      have e : (⟨b, off, none⟩ : Addr).add j = ⟨b, off + j, none⟩ := by unfold Addr.add; split <;> simp_all
      rw [e, cell_of_block (alloc_old _ _ _ hb), hc j h2]
      exact hj
    · intro v' w' hown hgr _ _
      rw [List.nil_append, Nat.zero_add] at hown
      obtain ⟨g, c, rfl, hg, -⟩ := own_form hown h0
      exact fin _ _ hown hgr ⟨g, c, rfl, hg⟩
  · have hm0 : m = 0 := by omega
    refine wpList_append_fits_any (Z.alloc (.cells #[] 21)) hgd s x 43 ho Z.heap.size 21 i0 1 Tryd.underlying43 hi0 hz1 Z.heap.size 0 0 [] hs (empty_own _ _ _) B m mc [] hx (by rw [hm0]; rfl) hBn (fun ad _ j u hj => by simp at hj) (fun u hu => by cases hu) (by omega) ?_
    intro w' hown hgr
    rw [List.append_nil, Nat.zero_add] at hown
    rw [Nat.zero_add]
    have e : (ag k32 m f).toList = [] := by rw [hm0]; simp [ag]
    exact fin _ _ (by rw [e]; exact hown) hgr ⟨_, _, rfl, Nat.le_refl _⟩
set_option maxHeartbeats 1000000 in
set_option maxRecDepth 100000 in
theorem dctAlike_any (a : Int) (ha : 0 ≤ a ∧ a ≤ 255) (len cap : Nat) (A : Option Addr) (F : Nat → Nat → Int) (B : Option Addr) (m mc : Nat) (Mf : Nat → Int) (w : World) (hT : CosW w) (hlen : len ≤ 9223372036854775807)
    (hA : 0 < len → ∃ b off, A = some ⟨b, off, none⟩ ∧ b < w.heap.size ∧ ∀ i, i < len → ∀ j, j < 32 → w.cell? ⟨b, off + i * 32 + j, none⟩ = some (.int .i32 (F i j)) ∧ (-2147483648 ≤ F i j ∧ F i j ≤ 2147483647))
    (hB : 0 < m → ∃ b off, B = some ⟨b, off, none⟩ ∧ b < w.heap.size ∧ ∀ i, i < m → w.cell? ⟨b, off + i, none⟩ = some (.int .i32 (Mf i)) ∧ (-2147483648 ≤ Mf i ∧ Mf i ≤ 2147483647)) (hmc : m ≤ mc) (hBn : B = none → m = 0 ∧ mc = 0) :
    Calls Tryd.prog 11 #[.int .u8 a, .slice A len cap, .slice B m mc] w fun e w' => e = .returned (.bool true) ∧ Below w.heap.size w w' := by
  have HAW := Lib.hid (awake22 w hT)
  obtain ⟨t, ht, ht3⟩ : ∃ t : Nat, a % 3 = (t : Int) ∧ t < 3 := ⟨(a % 3).toNat, by omega, by omega⟩
  obtain ⟨s, hs⟩ : ∃ s, s = t + 2 := ⟨_, rfl⟩
  have h1 : 2 ≤ s := by omega
  have h2 : s ≤ 4 := by omega
  have hnw := fun w h => newDct_any s h1 h2 w h
  have hpl := fun b c x w hT hb hx hx32 => dctPlain_any s h1 h2 b 0 c x w hT hb hx hx32
  have hin := fun db zb gb pb ob tvp tv g N c T f w0 w => in_any s h1 h2 db zb gb pb ob tvp tv g N c T f w0 w
  have hish := fun db zb gb pb ob tvp tv A m c w => in_short s h1 h2 db zb gb pb ob tvp tv A m c w
  obtain ⟨n, hn⟩ : ∃ n : Nat, 2 ^ (s + 1) = n := ⟨_, rfl⟩
  have hn8 : 8 ≤ n ∧ n ≤ 32 := by
    rcases dct_s s h1 h2 with rfl | rfl | rfl <;> (rw [← hn]; decide)
  have hsh : wrap64 (8 * 2 ^ t) = (n : Int) := by
    have : t = 0 ∨ t = 1 ∨ t = 2 := by omega
    rcases this with rfl | rfl | rfl <;> (subst hs; rw [← hn]; decide +kernel)
  rw [hn] at hnw hpl hin hish
  simp only [Nat.zero_add] at hpl
  have HNW := Lib.hid hnw
  have HPL := Lib.hid hpl
  have HIN := Lib.hid hin
  have HIS := Lib.hid hish
  have HC := Lib.hid hT
  have HTT := Lib.hid ht
  have HSH := Lib.hid hsh
  have HAA := Lib.hid hA
  have HBB := Lib.hid hB
  clear hnw hpl hin hish hT ht hsh hA hB hn hs
  go_enter Tryd.func11, Tryd.ntmps11
  go_wp2_with fail
  refine HAW.out.mono ?_
  rintro e w1 ⟨rfl, hb1⟩
  have HB1 := Lib.hid hb1
  clear hb1
  by_cases h6 : 6 < len
  · have h6' : (6 : Int) < (len : Int) := by omega
    go_wp2_with fail
    go_ret
    exact ⟨rfl, HB1.out⟩
  have h6' : decide ((6 : Int) < (len : Int)) = false := decide_eq_false (by omega)
  by_cases h40 : 40 < m
  · have h40' : (40 : Int) < (m : Int) := by omega
    go_wp2_with fail
    go_ret
    exact ⟨rfl, HB1.out⟩
  have h40' : decide ((40 : Int) < (m : Int)) = false := decide_eq_false (by omega)
  go_wp2_with fail
  rw [HTT.out, Int.toNat_natCast, HSH.out]
  refine (HNW.out _ (HC.out.below HB1.out)).mono ?_
  rintro e w2 ⟨db, zb, gb, pb, ob, tvp, tv, rfl, hzb, hgb, hD, hb2⟩
  have HB2 := Lib.hid (HB1.out.trans (hb2.mono HB1.out.size))
  have hzw : w.heap.size ≤ zb := Nat.le_trans HB1.out.size hzb
  have hgw : w.heap.size ≤ gb := Nat.le_trans HB1.out.size hgb
  have HD := Lib.hid hD
  clear hb2 hD hzb hgb HAW
  go_wp2_with fail
  go_loopw [40] (fun cnt wr => ∃ k : Nat, k ≤ len ∧ cnt = .int .i64 k ∧ DctR db zb gb pb ob tvp tv s wr ∧ Below w.heap.size w wr) (fun cnt _ => len - (intOf cnt).toNat)
  case atStart => exact ⟨0, by omega, rfl, HD.out, HB2.out⟩
  case round =>
    clear HD HB2 HB1
    obtain ⟨k, hk, rfl, hD, hBw⟩ := hrel
    have HD := Lib.hid hD
    have HB := Lib.hid hBw
    clear hD hBw
    by_cases hlt : k < len
    · have hlt' : (k : Int) < (len : Int) := by omega
      have hk0 : (0 : Int) ≤ k := by omega
      obtain ⟨b, off, rfl, hbl, hcc⟩ := HAA.out (by omega)
      have hrg : wr.rangeAt b (off + k * 32) (ag k32 32 (F k)).toList := fun j v hj => by
        have h32 : j < 32 := by have := (List.getElem?_eq_some_iff.1 hj).1; rw [Array.length_toList, ag_size] at this; exact this
        rw [(cell_blk (HB.out.block b hbl) _), (hcc k hlt j h32).1, ← hj]
        have := ag_get k32 32 (F k) j h32
        rw [← Array.getElem?_toList] at this
        exact this.symm
      obtain ⟨f, hf⟩ : ∃ f : Nat → Int, f = fun i => if i < 32 then F k i else 0 := ⟨_, rfl⟩
      have hf32 : ∀ i, -2147483648 ≤ f i ∧ f i ≤ 2147483647 := fun i => by
        rw [hf]
        show -2147483648 ≤ (if i < 32 then F k i else 0) ∧ (if i < 32 then F k i else 0) ≤ 2147483647
        by_cases h : i < 32
        · rw [if_pos h]; exact (hcc k hlt i h).2
        · rw [if_neg h]; decide
      rw [ag_ext k32 32 (F k) f (fun i hi => by rw [hf]; exact (if_pos hi).symm)] at hrg
      have HRG := Lib.hid hrg
      have HF := Lib.hid hf32
      have HIN32 := Lib.hid info32
      clear hrg hf32 hcc hf
      go_upto_region 12 with (first | (refine wpList_load_mid rfl T32 _ rfl b (off + k * 32) rfl _ _ HRG.out Tryd.underlying42 rfl ?hi ?_; (case hi => rw [Array.length_toList, ag_size]; exact HIN32.out)) | (refine wpList_store_mid rfl T32 _ _ rfl wr.heap.size 0 (ag k32 32 f) rfl rfl ?hth ?hin ?hon ?_; (case hth => exact there_row (alloc_at _ _) _ (by rw [ag_size]; exact Nat.le_refl _)); (case hin => rw [ag_size]; exact HIN32.out); (case hon => exact ag_one k32 32 _)))
      simp only [Act.put]
      refine cut_world (fun Z => Below wr.heap.size wr Z ∧ Bx wr.heap.size T32 k32 32 f Z) ⟨below_cells (by (repeat' (first | (with_reducible exact Below.refl _ _) | (with_reducible assumption) | (with_reducible refine Below.alloc ?_ ?_ _) | (with_reducible refine below_grew ?_ ?_ _) | (with_reducible refine Below.setCell ?_ ?_ _) | (with_reducible refine Below.drew ?_) | (with_reducible refine below_drewN ?_ _) | omega | (simp; done) | (simp; omega)))) (Nat.le_refl _) _, cells_all (alloc_at _ _) rfl (ag_size _ _ _)⟩ ?_
      rintro Z ⟨hBZ, hxZ⟩
      have HBZ := Lib.hid hBZ
      have HXZ := Lib.hid hxZ
      have hxl := (block_facts hxZ).2.2
      obtain ⟨xb, hxb⟩ : ∃ xb, wr.heap.size = xb := ⟨_, rfl⟩
      have HXB := Lib.hid hxb
      rw [hxb] at HXZ hxl ⊢
      clear hBZ hxZ hxb
      obtain ⟨i0, hi0, hz0, hz1, hz2⟩ := info_parts i32Info
      have HI0 := Lib.hid hi0
      have HZ0 := Lib.hid hz0
      have HZ1 := Lib.hid hz1
      have HZ2 := Lib.hid hz2
      clear hi0 hz0 hz1 hz2
      have hn32 : (n : Int) ≤ 32 := by omega
      have hn0 : (0 : Int) ≤ n := by omega
      go_upto_region 13 with (at_builtin; refine wpList_append_own_at (w := Z.alloc (.cells #[] 21)) rfl _ _ 43 rfl Z.heap.size 21 i0 (.int .i32 0) 1 4 Tryd.underlying43 HI0.out HZ0.out HZ1.out HZ2.out rfl (by decide) (.slice (some ⟨Z.heap.size, 0, none⟩) 0 0) 0 [] rfl ?hown ⟨xb, 0, none⟩ n 32 (ag k32 n f).toList rfl ?hl ?hnews ?h1 ?h63 ?hby ?hba ?_; (case hown => exact empty_own _ _ _); (case hl => rw [Array.length_toList, ag_size]; omega); (case hnews => exact news_k HXZ.out (by omega) (alloc_old _ _ _ hxl)); (case h1 => exact fun u hu => Array.all_eq_true_iff_forall_mem.1 (ag_one k32 _ _) u (by simpa using hu)); (case h63 => exact maxLen_le (by omega)); (case hby => omega); (case hba => simp); intro v' w2 hown2 hgr2 hni hat; clear hni hat)
      rw [List.nil_append, Nat.zero_add] at hown2
      obtain ⟨g, c, rfl, hgz, hgl⟩ := own_form hown2 (by omega)
      obtain ⟨N, hR, hnc⟩ := own_r32 hown2
      have hsZ := HBZ.out.size
      have hb2 : Below Z.heap.size Z w2 := ⟨hgr2.os, hgr2.tape, hgr2.output, Nat.le_trans (by simp) hgr2.size, fun i hi => (hgr2.block i (by simp; omega) (fun e => by simp [Value.ownBlock] at e; omega)).trans (alloc_old _ _ _ hi)⟩
      have hB2 : Below wr.heap.size wr w2 := HBZ.out.trans (hb2.mono hsZ)
      have hx2 := HXZ.out.keep hb2
      obtain ⟨l1, l2, l3, l4, l5, l6, l7⟩ := HD.out.lt
      have hW2 := HB.out.trans (hB2.mono HB.out.size)
      have hsw := HB.out.size
      have hcall := HIN.out db zb gb pb ob tvp tv g N c 21 f w w2 HC.out hW2 hzw hgw (by omega) (HD.out.keep hB2) hR HF.out ⟨by omega, by omega, by omega, by omega, by omega⟩ ⟨fun e => by have := l6 _ e.symm; omega, fun e => by have := l7 _ e.symm; omega⟩
      have HCALL := Lib.hid hcall
      have HX2 := Lib.hid hx2
      have HW2 := Lib.hid hW2
      have hxb2 := (block_facts hx2).2.2
      have hxn : xb ≠ zb ∧ xb ≠ gb ∧ xb ≠ g := by have := HXB.out; omega
      have hgw0 : w.heap.size ≤ g := by omega
      clear hcall hx2 hW2 hb2 hB2 hR hown2 hgr2 l1 l2 l3 l4 l5 l6 l7 HD HBZ HXZ HI0 HZ0 HZ1 HZ2 HRG HB
      go_wp2_with fail
      refine HCALL.out.mono ?_
      rintro e w3 ⟨rfl, hu3, hr3, hd3⟩
      have hW3 := hu3.below HW2.out HW2.out.size hzw hgw hgw0
      have hx3 : Bx xb T32 k32 32 f w3 := (hu3.block xb hxb2 hxn.1 hxn.2.1 hxn.2.2).trans HX2.out
      have hxl3 := (block_facts hx3).2.2
      have HX3 := Lib.hid hx3
      have HR3 := Lib.hid hr3
      have HD3 := Lib.hid hd3
      have HW3 := Lib.hid hW3
      clear hu3 hr3 hd3 hW3 hx3 HCALL HX2 HW2
      go_wp2_with fail
      refine (HPL.out xb 32 f w3 (HC.out.below HW3.out) hxl3 (fun i hi => ag_cell HX3.out i (by omega)) HF.out).mono ?_
      rintro e w4 ⟨g1, rfl, hg1, hb4, hbb⟩
      have HR4 := Lib.hid (HR3.out.keep hbb)
      have HD4 := Lib.hid (HD3.out.keep hbb)
      have HW4 := Lib.hid (HW3.out.trans (hbb.mono HW3.out.size))
      have HG4 := Lib.hid hb4
      clear hbb hb4 HR3 HD3 HW3
      obtain ⟨wi, sa⟩ := wideSame (lst n (dctF s f)) (by rw [lst_len]; omega) (lst_bd n _ (fun i _ => by rw [dctF_V]; unfold clamp32; omega))
      have hwc := wi (some ⟨g, 0, none⟩) c w4 (r32_C HR4.out (by omega)) (by rw [lst_len]; exact hnc)
      have hsc := fun A1 c1 w h => sa (some ⟨g1, 0, none⟩) n A1 c1 w h (by rw [lst_len]; exact Nat.le_refl _)
      rw [lst_len] at hwc
      have HWC := Lib.hid hwc
      have HSC := Lib.hid hsc
      clear wi sa hwc hsc
      go_wp2_with fail
      refine HWC.out.mono ?_
      rintro e w5 ⟨v5, rfl, hv5, hbb⟩
      have HD5 := Lib.hid (HD4.out.keep hbb)
      have HW5 := Lib.hid (HW4.out.trans (hbb.mono HW4.out.size))
      have hg5 := (R32.of_bx HG4.out).keep hbb
      obtain ⟨A1, c1, rfl⟩ := Kd.R_slice hv5
      obtain ⟨hc5, hl5⟩ := R_C hv5
      have hsm := HSC.out A1 c1 w5 (r32_C hg5 (by omega)) hc5 hl5
      rw [lst_len] at hsm
      rw [lst_len]
      have HSM := Lib.hid hsm
      clear hbb hv5 hg5 hc5 hl5 hsm HD4 HW4 HG4 HR4
      go_wp2_with fail
      refine HSM.out.mono ?_
      rintro e w6 ⟨rfl, hbb⟩
      have HD6 := Lib.hid (HD5.out.keep hbb)
      have HW6 := Lib.hid (HW5.out.trans (hbb.mono HW5.out.size))
      clear hbb
      go_wp2_with fail
      exact ⟨⟨k + 1, by omega, by go_num, HD6.out, HW6.out⟩, by simp only [intOf]; omega⟩
    · obtain rfl : len = k := by omega
      clear hlt hk
      have hm40 : m ≤ 40 := by omega
      have hmb : ∀ i, i < m → -2147483648 ≤ Mf i ∧ Mf i ≤ 2147483647 := fun i hi => by
        obtain ⟨b, off, rfl, hb, hc⟩ := HBB.out (by omega)
        exact (hc i hi).2
      have hBr : 0 < m → ∃ b off, B = some ⟨b, off, none⟩ ∧ b < wr.heap.size ∧ ∀ i, i < m → wr.cell? ⟨b, off + i, none⟩ = some (.int .i32 (Mf i)) := fun hp => by
        obtain ⟨b, off, rfl, hb, hc⟩ := HBB.out hp
        exact ⟨b, off, rfl, Nat.lt_of_lt_of_le hb HB.out.size, fun i hi => (cell_blk (HB.out.block b hb) _).trans (hc i hi).1⟩
      have HBR := Lib.hid hBr
      have HBN := Lib.hid hBn
      have HMB := Lib.hid hmb
      clear hBr hBn hmb HBB HAA
      go_upto_region 17 with (at_builtin; refine append_args rfl _ _ rfl rfl B m mc rfl Mf HBR.out HBN.out hm40 ?_; intro g c N w2 hgz hR2 hmc2 hb2; have HR2 := Lib.hid hR2; have HB2 := Lib.hid hb2; clear hR2 hb2)
      have HD2 := Lib.hid (HD.out.keep HB2.out)
      have HW2 := Lib.hid (HB.out.trans (HB2.out.mono HB.out.size))
      have hBr2 : 0 < m → ∃ b off, B = some ⟨b, off, none⟩ ∧ b < w2.heap.size ∧ ∀ i, i < m → w2.cell? ⟨b, off + i, none⟩ = some (.int .i32 (Mf i)) := fun hp => by
        obtain ⟨b, off, rfl, hb, hc⟩ := HBR.out hp
        exact ⟨b, off, rfl, Nat.lt_of_lt_of_le hb HB2.out.size, fun i hi => (cell_blk (HB2.out.block b hb) _).trans (hc i hi)⟩
      have HBR2 := Lib.hid hBr2
      clear hBr2 HD HB HB2 HBR
      by_cases hmn : m = n
      · have hmn' : ((m : Int) == (n : Int)) = true := by rw [hmn]; simp
        clear hmn
        go_wp2_with fail
        go_ret
        exact ⟨rfl, HW2.out⟩
      · have hmn' : ((m : Int) == (n : Int)) = false := beq_eq_false_iff_ne.mpr (by omega)
        have HIS2 := Lib.hid (HIS.out db zb gb pb ob tvp tv (some ⟨g, 0, none⟩) m c w2 HD2.out hmn)
        clear hmn
        go_wp2_with fail
        refine HIS2.out.mono ?_
        rintro e w3 ⟨rfl, hb3⟩
        have HR3 := Lib.hid (HR2.out.keep hb3)
        have HW3 := Lib.hid (HW2.out.trans (hb3.mono HW2.out.size))
        have hC3 : Kd.C (Kd.int .i32) w3 B (lst m Mf).length (lst m Mf) := addr_C (fun hp => by
          obtain ⟨b, off, rfl, hb, hc⟩ := HBR2.out hp
          exact ⟨b, off, rfl, fun i hi => (cell_blk (hb3.block b hb) _).trans (hc i hi)⟩) (by omega)
        obtain ⟨wi, sa⟩ := wideSame (lst m Mf) (by rw [lst_len]; omega) (lst_bd m _ HMB.out)
        have hwc := wi B mc w3 hC3 (by rw [lst_len]; exact hmc)
        have hsc := fun A1 c1 w h => sa (some ⟨g, 0, none⟩) c A1 c1 w h (by rw [lst_len]; exact hmc2)
        rw [lst_len] at hwc
        have HWC := Lib.hid hwc
        have HSC := Lib.hid hsc
        clear wi sa hwc hsc hb3 hC3 HR2 HD2 HW2 HBR2
        go_wp2_with fail
        refine HWC.out.mono ?_
        rintro e w5 ⟨v5, rfl, hv5, hbb⟩
        have HW5 := Lib.hid (HW3.out.trans (hbb.mono HW3.out.size))
        have hg5 := HR3.out.keep hbb
        obtain ⟨A1, c1, rfl⟩ := Kd.R_slice hv5
        obtain ⟨hc5, hl5⟩ := R_C hv5
        have hsm := HSC.out A1 c1 w5 (r32_C hg5 (by omega)) hc5 hl5
        rw [lst_len] at hsm
        rw [lst_len]
        have HSM := Lib.hid hsm
        clear hbb hv5 hg5 hc5 hl5 hsm HR3 HW3
        go_wp2_with fail
        refine HSM.out.mono ?_
        rintro e w6 ⟨rfl, hbb⟩
        have HW6 := Lib.hid (HW5.out.trans (hbb.mono HW5.out.size))
        clear hbb
        go_wp2_with fail
        go_ret
        exact ⟨rfl, HW6.out⟩
end Go.Proofs.YtcibajleknhklaaDoor
end

section
namespace Go
open Go.RowKit
set_option linter.unusedSimpArgs false
section
variable {H : Type} {enc : TypeId × Value → H} {P : Program} {w : World} {base : Nat} {spare : Nat → Bool} {held : Bool}
theorem addr_add (b off x : Nat) : (⟨b, off, none⟩ : Addr).add x = ⟨b, off + x, none⟩ := by
  unfold Addr.add
  split
  · rename_i h; subst h; rfl
  · rfl
theorem cells?_at {a : Addr} {n : Nat} {cs : List Value} (h : w.cells? base a n = some cs) : base ≤ a.block ∧ cs.length = n ∧ ∀ i, i < n → w.cell? (a.add i) = cs[i]? := by
  unfold World.cells? at h
  split at h
  · rename_i hb
    have h1 := mapM_some_length h
    have h2 := mapM_some_get h
    rw [List.length_range] at h1
    exact ⟨hb, h1, fun i hi => h2 i i (by rw [List.getElem?_range hi])⟩
  · cases h
/-- A slice whose elements are flat: where it lies, and each element's cells. -/
theorem open_flat_slice {r : Reach} {b0 : Nat} {t e : TypeId} {v : Value} {dd : DataW H} {p : List MemPlace} (d : Nat) (ls : List Leaf) (ht : P.underlying t = some (.slice e)) (hl : layout P d e = some ls) (hpos : 0 < ls.length)
    (hv : Value.okWide P w r b0 t v) (h : DataW.Trod enc P w base spare held t v dd p) :
    ∃ A len cap, v = .slice A len cap ∧ len ≤ cap ∧ cap ≤ maxLen ∧ (0 < len → ∃ b off, A = some ⟨b, off, none⟩ ∧ base ≤ b ∧ b < w.heap.size ∧ ∀ i, i < len → ∃ cs : List Value, fitAllW ls cs = true ∧ ∀ j, j < ls.length → w.cell? ⟨b, off + i * ls.length + j, none⟩ = cs[j]?) := by
  obtain ⟨fuel, hf⟩ := h
  have hne : v.cells.toList = [v] := by
    cases v with
    | agg cs => simp [Value.okWide, ht, Cell.okWide, Cell.ok] at hv
    | _ => rfl
  rw [hne] at hf
  rcases DataW.trod_slice ht hf with ⟨hcs, _⟩ | ⟨a, len, cap, elems, rest, n, _, hcs, _, hb, hle, hm, hlen, hel, _, _⟩
  · obtain rfl : v = .slice none 0 0 := by simpa using hcs
    exact ⟨none, 0, 0, rfl, Nat.le_refl _, by unfold maxLen; omega, fun h => absurd h (by omega)⟩
  · obtain rfl : v = .slice (some a) len cap := by simpa using hcs
    refine ⟨some a, len, cap, rfl, hle, hm, fun hp => ?_⟩
    have hce := layout_cells hl
    have each : ∀ i, i < len → ∃ cs : List Value, fitAllW ls cs = true ∧ ∀ j, j < ls.length → w.cell? ((a.add (i * ls.length)).add j) = cs[j]? := fun i hi => by
      have h1 := hel i hi
      rw [List.getElem?_eq_getElem (by omega)] at h1
      obtain ⟨cs, h2, h3⟩ := Option.bind_eq_some_iff.1 h1
      rw [hce] at h2
      obtain ⟨_, h4, h5⟩ := cells?_at h2
      exact ⟨cs, flat_of_trod d n e ls cs _ hl h3, h5⟩
    -- the address is a cell's
    have hs : a.spot = none ∧ a.block < w.heap.size := by
      obtain ⟨cs, h1, h2⟩ := each 0 hp
      have h3 := h2 0 hpos
      have h4 := fitAllW_length h1
      rw [List.getElem?_eq_getElem (by omega)] at h3
      have e : (a.add (0 * ls.length)).add 0 = a := by simp [Addr.add]
      rw [e] at h3
      refine ⟨?_, World.block_lt_of_cell? w a h3⟩
      unfold World.cell? at h3
      split at h3
      · split at h3
        · cases h3
        · rename_i hh
          cases hsp : a.spot with
          | none => rfl
          | some x => rw [hsp] at hh; simp at hh
      · cases h3
    obtain ⟨b, off, sp⟩ := a
    obtain ⟨hs1, hs2⟩ := hs
    simp only at hs1 hs2
    subst hs1
    refine ⟨b, off, rfl, hb, hs2, fun i hi => ?_⟩
    obtain ⟨cs, h1, h2⟩ := each i hi
    refine ⟨cs, h1, fun j hj => ?_⟩
    have e : ((⟨b, off, none⟩ : Addr).add (i * ls.length)).add j = ⟨b, off + i * ls.length + j, none⟩ := by
      rw [addr_add, addr_add]
    rw [← e]
    exact h2 j hj
end
/-- The whole number behind an address. -/
def intCell (w : World) (A : Option Addr) (k : Nat) : Int := match A with | some a => intOf ((w.cell? ⟨a.block, a.off + k, none⟩).getD (.bool false)) | none => 0
/-- What 'open_flat_slice' tells, cell by cell, as whole numbers. -/
theorem int_cells {w : World} {A : Option Addr} {len base : Nat} {ls : List Leaf} (h : 0 < len → ∃ b off, A = some ⟨b, off, none⟩ ∧ base ≤ b ∧ b < w.heap.size ∧ ∀ i, i < len → ∃ cs : List Value, fitAllW ls cs = true ∧ ∀ j, j < ls.length → w.cell? ⟨b, off + i * ls.length + j, none⟩ = cs[j]?) :
    0 < len → ∃ b off, A = some ⟨b, off, none⟩ ∧ b < w.heap.size ∧ ∀ i, i < len → ∀ (j : Nat) (k : IntKind), ls[j]? = some (.int k) → w.cell? ⟨b, off + i * ls.length + j, none⟩ = some (.int k (intCell w A (i * ls.length + j))) ∧ (Lit.int k (intCell w A (i * ls.length + j))).wf = true := by
  intro hp
  obtain ⟨b, off, rfl, _, hb, hc⟩ := h hp
  refine ⟨b, off, rfl, hb, fun i hi j k hj => ?_⟩
  obtain ⟨cs, h1, h2⟩ := hc i hi
  obtain ⟨n, h3, h4⟩ := fitAllW_at j k h1 hj
  have h5 := h2 j (List.getElem?_eq_some_iff.1 hj).1
  rw [h3] at h5
  have h6 : intCell w (some ⟨b, off, none⟩) (i * ls.length + j) = n := by
    unfold intCell
    simp only
    rw [← Nat.add_assoc, h5]
    rfl
  rw [h6]
  exact ⟨h5, h4⟩
end Go
end

section
namespace Go
open Go.RowKit Go.ChangeShapes Go.WideShapes
/-- All arguments read again. -/
theorem trodAll_below {H : Type} {enc : TypeId × Value → H} {P : Program} (hl : laidOutB P = true) {W W' : World} (hb : Below W.heap.size W W') :
    ∀ (ts : List TypeId) (vs : List Value) (ds : List (DataW H)) (ps : List MemPlace), (ts.all fun t => P.readableRec t && decide (t < P.types.size)) = true →
      DataW.TrodAll enc P W 0 (fun _ => true) true ts vs ds ps → (∀ x ∈ ps, x.block < W.heap.size) → DataW.TrodAll enc P W' 0 (fun b => decide (b < W.heap.size)) true ts vs ds ps
  | [], vs, ds, ps, _, h, _ => by
    obtain ⟨rfl, rfl, rfl⟩ := trodAll_nil h
    exact trodAll_mk0
  | t :: ts, vs, ds, ps, hr, h, hlt => by
    simp only [List.all_cons, Bool.and_eq_true, decide_eq_true_eq] at hr
    obtain ⟨v, vs', d, ds', p, q, rfl, rfl, rfl, h1, h2⟩ := trodAll_cons h
    exact trodAll_cons_mk (Below.trod hl hr.1.1 hr.1.2 h1 hb (fun x hx => hlt x (List.mem_append_left _ hx))) (trodAll_below hl hb ts vs' ds' q hr.2 h2 (fun x hx => hlt x (List.mem_append_right _ hx)))
end Go
end

section
namespace Go.Proofs.YtcibajleknhklaaDoor
open Go.RowKit
theorem cosines_of {W : World} {rest : List (String × DataW Unit)} (h : laidMet Tryd.prog (("spinet/cis.cosines", Rows.laid_spinet_cis_cosines) :: rest) W) : CosW W := by
  have hT := Lib.tabIs_of_head (P := Tryd.prog) (g := 0) (t := 207) (e := 2) (n := 65) (k := .i64) (zs := cosL) (by kernel_rfl) (by kernel_rfl) Tryd.underlying207 Tryd.underlying2 (by kernel_rfl) (by kernel_rfl) h
  have hc := fun i hi => hT.cell (g := 0) (by kernel_rfl) i hi
  exact ⟨World.block_lt_of_cell? W ⟨0, 0, none⟩ (hc 0 (by decide)), hc⟩
end Go.Proofs.YtcibajleknhklaaDoor
end

section
namespace Go.Proofs.YtcibajleknhklaaDoor
open Go.ChangeShapes Go.WideShapes Go.ChangeAt Go.WideMaps Go.WideElems Go.RowKit
set_option maxRecDepth 100000 in
theorem dctAlike_lifted (os : Os) (started : os.Started) (H : Type) (enc : TypeId × Value → H) :
    ReturnsInHanded {} Tryd.checked os 11 .any (fun w args => (Rows.dctAlikeSpec.pre enc Tryd.prog Tryd.f11 [] false w args ∧ laidMetH Tryd.prog Rows.dctAlikeRow.laid w) ∧ sizedMet enc Tryd.prog Tryd.f11 (OpenSpec.ofChange Rows.dctAlikeSpec) false w args)
      (Rows.dctAlikeSpec.post enc Tryd.prog Tryd.f11 false true false false) := by
  refine returnsInHanded_of_change_and (C := Tryd.checked) (X := fun w _ => laidMetH Tryd.prog Rows.dctAlikeRow.laid w) (fun _ _ _ hh h => h.of_heap hh) (by kernel_rfl) started (by kernel_rfl) Tryd.func11
    (ChangeSpec.witness_shaped (enc := enc) (C := Tryd.checked) (os := os) (X := fun w _ => laidMetH Tryd.prog Rows.dctAlikeRow.laid w) false (World.doorLaid Tryd.prog 400 os) #[.int .u8 0, .slice none 0 0, .slice none 0 0] 8 rfl (World.shaped_of_RefB (by kernel_rfl) (by kernel_rfl)) (by kernel_rfl) (by kernel_rfl) (by kernel_rfl)
      (laidMetH_of_parts3 (fuel := 8) (laidMet_of_run' 8 (by kernel_rfl) (by kernel_rfl)) (by kernel_rfl) (by kernel_rfl))) ?_
  intro W base args ds gs before hval0 hW _ _ hL _
  have hval : ∀ (j : Nat) t v, Tryd.f11.params[j]? = some t → args[j]? = some v → Value.okWide Tryd.prog W .any base t v := hval0
  have hW' := hW
  obtain ⟨p, q, hA0, hV, rfl, hfz, hnd⟩ := hW
  have hA : DataW.TrodAll enc Tryd.prog W 0 (fun _ => true) true Tryd.f11.params.toList args.toList ds p := hA0
  have hA2 := hA
  rw [Tryd.params11] at hA hval
  obtain ⟨v0, v1, v2, d0, d1, d2, p0, p1, p2, rfl, rfl, hp, h0, h1, h2⟩ := trodAll_three hA
  obtain ⟨rfl, rfl⟩ := trodVars_none hV
  obtain ⟨a, rfl, rfl, hp0, wa⟩ := open_int Tryd.underlying5 (hval 0 5 v0 rfl rfl) h0
  obtain ⟨A, len, cap, rfl, hle, hm, hcs⟩ := open_flat_slice 4 (List.replicate 32 (Leaf.int .i32)) Tryd.underlying80 (by kernel_rfl) (by decide) (hval 1 80 v1 rfl rfl) h1
  have hic := int_cells hcs
  have hsn := slice_none Tryd.underlying43 (hval 2 43 v2 rfl rfl) h2
  obtain ⟨B, len2, cap2, rfl, hle2, hm2, hcs2⟩ := open_flat_slice 4 [Leaf.int .i32] Tryd.underlying43 (by kernel_rfl) (by decide) (hval 2 43 v2 rfl rfl) h2
  have hic2 := int_cells hcs2
  rw [MakeChecks.laidMetH_plain _ _ _ (by kernel_rfl)] at hL
  have hT : CosW W := cosines_of hL
  simp only [List.append_nil] at hW'
  refine (dctAlike_any a (wf_u8 wa) len cap A (fun i j => intCell W A (i * 32 + j)) B len2 cap2 (fun i => intCell W B (i * 1 + 0)) W hT (by unfold maxLen at hm; omega) (fun hp => by
    obtain ⟨b, off, hA, hb, hc⟩ := hic hp
    exact ⟨b, off, hA, hb, fun i hi j hj => by
      obtain ⟨h5, h6⟩ := hc i hi j .i32 (by rw [List.getElem?_replicate, if_pos hj])
      exact ⟨h5, wf_i32 h6⟩⟩) (fun hp => by
    obtain ⟨b, off, hA, hb, hc⟩ := hic2 hp
    exact ⟨b, off, hA, hb, fun i hi => by
      obtain ⟨h5, h6⟩ := hc i hi 0 .i32 rfl
      rw [show off + i * [Leaf.int IntKind.i32].length + 0 = off + i from by simp] at h5
      exact ⟨h5, wf_i32 h6⟩⟩) hle2 (hsn B len2 cap2 rfl)).mono fun e W' ⟨he, hb⟩ => ?_
  subst he
  have e1 : Rows.dctAlikeSpec.fn H ([.lit (.int .u8 a), d1, d2] ++ []) = { results := [.lit (.bool true)], args := [.lit (.int .u8 a), d1, d2] } := by simp [Rows.dctAlikeSpec]
  refine ⟨_, rfl, _, _, _, [], p, [], hW', ?_, ?_, ?_, hb.frame _, fun h => by cases h⟩
  · rw [e1]; exact trodAll_mk1 (shut_bool Tryd.underlying4 _)
  · rw [e1]; exact trodAll_below (by kernel_rfl) hb _ _ _ _ (by kernel_rfl) hA2 (fun x hx => by simpa using hW'.lt x (by simpa using hx))
  · rw [e1]; rfl
theorem dctAlike_holds : Rows.DctAlikeSaid :=
  OpenClaim.holds_of_wide 11 Tryd.f11 rfl rfl rfl rfl rfl rfl rfl ⟨rfl, rfl, rfl, rfl, rfl⟩ rfl rfl rfl rfl rfl (by kernel_rfl) Tryd.func11 (by kernel_rfl)
    (of_decide_eq_true (by kernel_rfl)) (by unfold Func.isWrapper; rw [if_neg (of_decide_eq_false (by kernel_rfl))]; exact ⟨rfl, rfl⟩)
    (fun os started H enc _ => dctAlike_lifted os started H enc)
theorem dctAlike_card : Rows.DctAlikeCardSaid :=
  Claim7.holds_tied_plain_at .later [] [.data] true (true, "ae348317897b4f8711de699b2180ffb779772e4703cfa942f657876935132cc0") false
    dctAlike_holds (fun _ h => by cases h) (by kernel_rfl) (fun _ h => by cases h) dctAlike_row_tie rfl ⟨rfl, rfl⟩ (by kernel_rfl) rfl
    (fun f fn hf hfn => by
      obtain rfl : f = 11 := Option.some.inj ((show Tryd.prog.funcNamed "spinet/spinetlaw22.DctAlike" = some 11 by kernel_rfl).symm.trans hf) |>.symm
      obtain rfl : fn = Tryd.f11 := (Option.some.inj (Tryd.func11.symm.trans hfn)).symm
      exact ⟨by kernel_rfl, fun j t ht => by
        rw [Tryd.params11] at ht
        have hm : t ∈ [5, 80, 43] := by simpa using Array.mem_of_getElem? ht
        have hall : ([5, 80, 43].all fun u => !Tryd.prog.wantsStandIn u) = true := by kernel_rfl
        exact (show Tryd.prog.wantsStandIn t = false by simpa using List.all_eq_true.1 hall t (by simpa using hm))⟩)
    (by kernel_rfl)
end Go.Proofs.YtcibajleknhklaaDoor
end

