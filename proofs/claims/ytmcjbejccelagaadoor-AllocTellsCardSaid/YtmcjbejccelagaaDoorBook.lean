/-
  A book (package count): a map that holds V of pairs.
-/
import Derived.Test.YtmcjbejccelagaaDoorEq
import Derived.Test.YtmcjbejccelagaaDoorVec
namespace Go
open Go.RowKit Go.Vec
set_option linter.unusedSimpArgs false

/-- What a book's map may hold. -/
def GoodEntries (es : List MapEntry) : Prop := ∀ e ∈ es, ∃ n k : Int, e.key = .agg #[.int .i64 n, .int .i64 k] ∧ e.val = .int .u64 (vF n k)
/-- A map's contents, and growth. -/
structure BookBy where
  es : Array MapEntry
  clock : Nat
  good : GoodEntries es.toList
  gr : Grown.By
instance : Inhabited BookBy := ⟨⟨#[], 0, fun e h => by simp at h, default⟩⟩
/-- 'w', with other contents of the map at block m, grown. -/
def World.bkd (w : World) (m : Nat) (x : BookBy) : World := { w with heap := (w.heap.setIfInBounds m (.map x.es x.clock)) ++ x.gr.objs, drawn := x.gr.drawn }

section
variable (w : World) (m : Nat) (x y : BookBy)
theorem World.bkd_block (k : Nat) (h : k < w.heap.size) (hne : m ≠ k) : (w.bkd m x).heap[k]? = w.heap[k]? := by
  show (w.heap.setIfInBounds m _ ++ x.gr.objs)[k]? = _
  rw [Array.getElem?_append_left (by simpa using h), Array.getElem?_setIfInBounds_ne hne]
theorem World.bkd_map (h : m < w.heap.size) : (w.bkd m x).heap[m]? = some (.map x.es x.clock) := by
  show (w.heap.setIfInBounds m _ ++ x.gr.objs)[m]? = _
  rw [Array.getElem?_append_left (by simpa using h), Array.getElem?_setIfInBounds_self_of_lt h]
@[simp, go_sem] theorem World.size_bkd : (w.bkd m x).heap.size = w.heap.size + x.gr.objs.size := by
  show (w.heap.setIfInBounds m _ ++ x.gr.objs).size = _
  simp
@[go_sem] theorem World.drew_bkd : (w.bkd m x).drew = w.bkd m ⟨x.es, x.clock, x.good, ⟨x.gr.objs, x.gr.drawn + 1⟩⟩ := rfl
@[go_sem] theorem World.bkd_drew : w.drew.bkd m x = w.bkd m x := rfl
@[go_sem] theorem World.grew_bkd (z : Grown.By) : (w.bkd m x).grew z = w.bkd m ⟨x.es, x.clock, x.good, ⟨x.gr.objs ++ z.objs, z.drawn⟩⟩ := by
  unfold World.bkd World.grew
  simp [Array.append_assoc]
@[go_sem] theorem World.cell?_bkd (n i : Nat) (s : Option Nat) (hn : n < w.heap.size) (hne : m ≠ n) : (w.bkd m x).cell? ⟨n, i, s⟩ = w.cell? ⟨n, i, s⟩ := by
  unfold World.cell?
  rw [World.bkd_block w m x n hn hne]
@[go_sem] theorem World.frozen?_bkd (n i : Nat) (s : Option Nat) (hn : n < w.heap.size) (hne : m ≠ n) : (w.bkd m x).frozen? ⟨n, i, s⟩ = w.frozen? ⟨n, i, s⟩ := by
  unfold World.frozen?
  rw [World.bkd_block w m x n hn hne]
@[go_sem] theorem World.shape?_bkd (n : Nat) (hn : n < w.heap.size) (hne : m ≠ n) : (w.bkd m x).shape? n = w.shape? n := by
  unfold World.shape?
  rw [World.bkd_block w m x n hn hne]
@[go_sem] theorem World.heap_bkd (n : Nat) (hn : n < w.heap.size) (hne : m ≠ n) : (w.bkd m x).heap[n]? = w.heap[n]? := World.bkd_block w m x n hn hne
@[go_sem] theorem World.setCell_bkd (n i : Nat) (s : Option Nat) (v : Value) (hn : n < w.heap.size) (hne : m ≠ n) : (w.bkd m x).setCell ⟨n, i, s⟩ v = (w.setCell ⟨n, i, s⟩ v).bkd m x := by
  unfold World.setCell World.bkd
  congr 1
  apply Array.ext_getElem?
  intro k
  simp only [Array.getElem?_modify, Array.getElem?_append, Array.size_modify, Array.size_setIfInBounds, Array.getElem?_setIfInBounds]
  by_cases hk : n = k
  · subst hk
    simp [hn, hne]
  · simp [hk]
@[go_sem] theorem World.bkd_bkd (h : m < w.heap.size) : (w.bkd m x).bkd m y = w.bkd m ⟨y.es, y.clock, y.good, ⟨x.gr.objs ++ y.gr.objs, y.gr.drawn⟩⟩ := by
  unfold World.bkd
  simp only
  congr 1
  apply Array.ext_getElem?
  intro k
  simp only [Array.getElem?_append, Array.size_append, Array.size_setIfInBounds, Array.getElem?_setIfInBounds]
  grind
end

@[go_sem] theorem World.heap_alloc_past (w : World) (o : Obj) (k : Nat) (h : k < w.heap.size) : (w.alloc o).heap[k]? = w.heap[k]? := Below.heap_alloc w o k h
/-- Of what was there nothing has turned but the map at block m, which is a good one. -/
structure BkInv (m : Nat) (w w' : World) : Prop where
  os : w'.os = w.os
  tape : w'.tape = w.tape
  output : w'.output = w.output
  size : w.heap.size ≤ w'.heap.size
  lt : m < w.heap.size
  map : ∃ es clk, w'.heap[m]? = some (.map es clk) ∧ GoodEntries es.toList
  block : ∀ k, k < w.heap.size → m ≠ k → w'.heap[k]? = w.heap[k]?
def Bk (m : Nat) (w w' : World) : Prop := ∃ x : BookBy, w' = w.bkd m x

theorem bkInv_as {m : Nat} {w w' : World} (h : BkInv m w w') : Bk m w w' := by
  obtain ⟨es, clk, hm, hg⟩ := h.map
  refine ⟨⟨es, clk, hg, ⟨w'.heap.extract w.heap.size w'.heap.size, w'.drawn⟩⟩, ?_⟩
  have hs := h.size
  have hlt := h.lt
  have hb := h.block
  have hh : w'.heap = w.heap.setIfInBounds m (.map es clk) ++ w'.heap.extract w.heap.size w'.heap.size := by
    apply Array.ext_getElem?
    intro k
    rw [Array.getElem?_append, Array.size_setIfInBounds]
    by_cases hk : k < w.heap.size
    · rw [if_pos hk]
      by_cases hmk : m = k
      · subst hmk
        rw [hm, Array.getElem?_setIfInBounds_self_of_lt hk]
      · rw [Array.getElem?_setIfInBounds_ne hmk, hb k hk hmk]
    · rw [if_neg hk, Array.getElem?_extract]
      by_cases h2 : k < w'.heap.size
      · rw [if_pos (by omega)]
        congr 1; omega
      · rw [if_neg (by omega)]
        simp; omega
  obtain ⟨hp, tp, dr, os, out⟩ := w'
  obtain ⟨a1, a2, a3, _, _, _, _⟩ := h
  simp only at *
  subst a1 a2 a3
  unfold World.bkd
  simp only
  congr 1

theorem BkInv.of_bk {m : Nat} {w w' : World} (hlt : m < w.heap.size) (h : Bk m w w') : BkInv m w w' := by
  obtain ⟨x, rfl⟩ := h
  exact ⟨rfl, rfl, rfl, by simp, hlt, ⟨x.es, x.clock, World.bkd_map w m x hlt, x.good⟩, fun k hk hne => World.bkd_block w m x k hk hne⟩
theorem BkInv.below {m : Nat} {w a b : World} (h : BkInv m w a) (hb : Below w.heap.size a b) : BkInv m w b := by
  obtain ⟨es, clk, h1, h2⟩ := h.map
  exact ⟨hb.os.trans h.os, hb.tape.trans h.tape, hb.output.trans h.output, Nat.le_trans h.size hb.size, h.lt, ⟨es, clk, (hb.block m h.lt).trans h1, h2⟩, fun k hk hne => (hb.block k hk).trans (h.block k hk hne)⟩
theorem BkInv.alloc {m : Nat} {w a : World} (h : BkInv m w a) (o : Obj) : BkInv m w (a.alloc o) := h.below ((Below.refl _ _).alloc h.size o)
theorem BkInv.grew {m : Nat} {w a : World} (h : BkInv m w a) (x : Grown.By) : BkInv m w (a.grew x) := h.below (below_grew (Below.refl _ _) h.size x)
theorem BkInv.drew {m : Nat} {w a : World} (h : BkInv m w a) : BkInv m w a.drew := ⟨h.os, h.tape, h.output, h.size, h.lt, h.map, h.block⟩
theorem BkInv.drewN {m : Nat} {w a : World} (h : BkInv m w a) (n : Nat) : BkInv m w (a.drewN n) := ⟨h.os, h.tape, h.output, h.size, h.lt, h.map, h.block⟩
theorem BkInv.setCell {m : Nat} {w a : World} (h : BkInv m w a) {p : Addr} (hp : w.heap.size ≤ p.block) (u : Value) : BkInv m w (a.setCell p u) := h.below ((Below.refl _ _).setCell hp u)
theorem BkInv.bkd {m : Nat} {w a : World} (h : BkInv m w a) (x : BookBy) : BkInv m w (a.bkd m x) := by
  have hlt : m < a.heap.size := Nat.lt_of_lt_of_le h.lt h.size
  refine ⟨h.os, h.tape, h.output, ?_, h.lt, ⟨x.es, x.clock, World.bkd_map a m x hlt, x.good⟩, fun k hk hne => (World.bkd_block a m x k (Nat.lt_of_lt_of_le hk h.size) hne).trans (h.block k hk hne)⟩
  have := h.size
  simp; omega
theorem BkInv.refl {m : Nat} {w : World} {es : Array MapEntry} {clk : Nat} (h : w.heap[m]? = some (.map es clk)) (hg : GoodEntries es.toList) : BkInv m w w :=
  ⟨rfl, rfl, rfl, Nat.le_refl _, (Array.getElem?_eq_some_iff.1 h).1, ⟨es, clk, h, hg⟩, fun _ _ _ => rfl⟩

/-- A book lies at block b, its map at block m. -/
structure BookOK (T : TypeId) (b m : Nat) (w : World) : Prop where
  book : w.heap[b]? = some (.cells #[.map (some m)] T (0, 0))
  ne : m ≠ b
  map : ∃ es clk, w.heap[m]? = some (.map es clk) ∧ GoodEntries es.toList
theorem BookOK.lt_b {T : TypeId} {b m : Nat} {w : World} (h : BookOK T b m w) : b < w.heap.size := (Array.getElem?_eq_some_iff.1 h.book).1
theorem BookOK.lt_m {T : TypeId} {b m : Nat} {w : World} (h : BookOK T b m w) : m < w.heap.size := by
  obtain ⟨es, clk, h1, _⟩ := h.map
  exact (Array.getElem?_eq_some_iff.1 h1).1
theorem BookOK.refl {T : TypeId} {b m : Nat} {w : World} (h : BookOK T b m w) : BkInv m w w := by
  obtain ⟨es, clk, h1, h2⟩ := h.map
  exact BkInv.refl h1 h2
theorem BookOK.inv {T : TypeId} {b m : Nat} {w w' : World} (h : BookOK T b m w) (hi : BkInv m w w') : BookOK T b m w' :=
  ⟨(hi.block b h.lt_b h.ne).trans h.book, h.ne, hi.map⟩
theorem BookOK.cell {T : TypeId} {b m : Nat} {w : World} (h : BookOK T b m w) : w.cell? ⟨b, 0, none⟩ = some (.map (some m)) := by simp [World.cell?, h.book]

/-! What a look-up and a store come to. -/
section
variable {P : Program} {tm tk te : TypeId}
theorem findAsking_book (hl : layout P 2 tk = some [.int .i64, .int .i64]) (ha : isAggB P tk = true) (n k : Int) (w : World) : ∀ (es : List MapEntry) (i : Nat), GoodEntries es →
    (∀ x, x ∈ es → x.key ≠ .agg #[.int .i64 n, .int .i64 k]) ∧ (Instr.findAsking tk (.agg #[.int .i64 n, .int .i64 k]) es i).run P w = .ok none w ∨
    ∃ j e, es[j]? = some e ∧ e.key = .agg #[.int .i64 n, .int .i64 k] ∧ e.val = .int .u64 (vF n k) ∧ (Instr.findAsking tk (.agg #[.int .i64 n, .int .i64 k]) es i).run P w = .ok (some (i + j, .int .u64 (vF n k))) w
  | [], i, _ => .inl ⟨fun x hx => by simp at hx, by simp [Instr.findAsking]⟩
  | e :: es, i, hg => by
    obtain ⟨n', k', hk, hv⟩ := hg e (by simp)
    have he : (Op.equal tk (.agg #[.int .i64 n, .int .i64 k]) e.key).run P w = .ok (cellsEq [.int .i64 n, .int .i64 k] [.int .i64 n', .int .i64 k']) w := by
      rw [hk]
      exact eq_flat tk 2 _ hl (by decide) ha [.int .i64 n, .int .i64 k] [.int .i64 n', .int .i64 k'] rfl rfl w
    by_cases hc : n = n' ∧ k = k'
    · obtain ⟨rfl, rfl⟩ := hc
      refine .inr ⟨0, e, rfl, hk, hv, ?_⟩
      simp only [Instr.findAsking, Sem.run_bind, he, Result.andThen_ok]
      simp [cellsEq, cellEq, hv]
    · have hf : cellsEq [.int .i64 n, .int .i64 k] [.int .i64 n', .int .i64 k'] = false := by
        simp only [cellsEq, cellEq, Bool.and_true, Bool.and_eq_false_iff, beq_eq_false_iff_ne]
        omega
      rw [hf] at he
      rcases findAsking_book hl ha n k w es (i + 1) (fun x hx => hg x (by simp [hx])) with ⟨h1, h2⟩ | ⟨j, x, h1, h2, h3, h4⟩
      · refine .inl ⟨fun x hx => ?_, ?_⟩
        · rcases List.mem_cons.1 hx with rfl | hx
          · rw [hk]
            intro hh
            simp at hh
            omega
          · exact h1 x hx
        · simp only [Instr.findAsking, Sem.run_bind, he, Result.andThen_ok]
          simpa using h2
      · refine .inr ⟨j + 1, x, by simpa using h1, h2, h3, ?_⟩
        simp only [Instr.findAsking, Sem.run_bind, he, Result.andThen_ok]
        rw [show i + (j + 1) = i + 1 + j by omega]
        simpa using h4

theorem findKey_book (hs : ∃ fs, P.underlying tk = some (.struct fs)) (hl : layout P 2 tk = some [.int .i64, .int .i64]) (ha : isAggB P tk = true) (n k : Int) (w : World) (es : List MapEntry) (hg : GoodEntries es) :
    (∀ x, x ∈ es → x.key ≠ .agg #[.int .i64 n, .int .i64 k]) ∧ (Instr.findKey tk (.agg #[.int .i64 n, .int .i64 k]) es).run P w = .ok none w ∨
    ∃ j e, es[j]? = some e ∧ e.key = .agg #[.int .i64 n, .int .i64 k] ∧ e.val = .int .u64 (vF n k) ∧ (Instr.findKey tk (.agg #[.int .i64 n, .int .i64 k]) es).run P w = .ok (some (j, .int .u64 (vF n k))) w := by
  obtain ⟨fs, hs⟩ := hs
  unfold Instr.findKey
  simp only [Sem.run_bind, run_underlying hs, Result.andThen_ok]
  cases es with
  | nil => exact .inl ⟨fun x hx => by simp at hx, by simp [Instr.findNow]⟩
  | cons e es =>
    have : Instr.findNow (.struct fs) (.agg #[.int .i64 n, .int .i64 k]) (e :: es) 0 = none := by simp [Instr.findNow, Instr.sameNow]
    rw [this]
    have := findAsking_book hl ha n k w (e :: es) 0 hg
    simpa using this

theorem run_lookup_book (hm : P.underlying tm = some (.map tk te)) (hs : ∃ fs, P.underlying tk = some (.struct fs)) (hl : layout P 2 tk = some [.int .i64, .int .i64]) (ha : isAggB P tk = true)
    (hz : ∀ w, (zeroValue te).run P w = .ok (.int .u64 0) w) (hck : ∀ e n k w, (Instr.checkKey e 10000 tk (.agg #[.int .i64 n, .int .i64 k])).run P w = .ok () w)
    (n k : Int) (m : Nat) (w : World) (es : Array MapEntry) (clk : Nat) (hh : w.heap[m]? = some (.map es clk)) (hg : GoodEntries es.toList) :
    (Instr.lookup tm (.map (some m)) (.agg #[.int .i64 n, .int .i64 k]) true).run P w = .ok (.tuple #[.int .u64 (vF n k), .bool true]) w ∨
    (Instr.lookup tm (.map (some m)) (.agg #[.int .i64 n, .int .i64 k]) true).run P w = .ok (.tuple #[.int .u64 0, .bool false]) w := by
  unfold Instr.lookup
  simp only [Sem.run_bind, run_underlying hm, Result.andThen_ok, getObj, Sem.run, hh, Sem.run_pure, hck]
  rcases findKey_book hs hl ha n k w es.toList hg with ⟨_, h⟩ | ⟨j, e, _, _, _, h⟩
  · right
    simp [h, hz]
  · left
    simp [h]

/-- The same for every world that has this map: it is there, or it isn't. -/
theorem run_lookup_all (hm : P.underlying tm = some (.map tk te)) (hs : ∃ fs, P.underlying tk = some (.struct fs)) (hl : layout P 2 tk = some [.int .i64, .int .i64]) (ha : isAggB P tk = true)
    (hz : ∀ w, (zeroValue te).run P w = .ok (.int .u64 0) w) (hck : ∀ e n k w, (Instr.checkKey e 10000 tk (.agg #[.int .i64 n, .int .i64 k])).run P w = .ok () w)
    (n k : Int) (m : Nat) (es : Array MapEntry) (clk : Nat) (hg : GoodEntries es.toList) :
    (∀ w : World, w.heap[m]? = some (.map es clk) → (Instr.lookup tm (.map (some m)) (.agg #[.int .i64 n, .int .i64 k]) true).run P w = .ok (.tuple #[.int .u64 (vF n k), .bool true]) w) ∨
    (∀ w : World, w.heap[m]? = some (.map es clk) → (Instr.lookup tm (.map (some m)) (.agg #[.int .i64 n, .int .i64 k]) true).run P w = .ok (.tuple #[.int .u64 0, .bool false]) w) := by
  by_cases hex : ∃ x, x ∈ es.toList ∧ x.key = .agg #[.int .i64 n, .int .i64 k]
  · left
    intro w hh
    unfold Instr.lookup
    simp only [Sem.run_bind, run_underlying hm, Result.andThen_ok, getObj, Sem.run, hh, Sem.run_pure, hck]
    rcases findKey_book hs hl ha n k w es.toList hg with ⟨hno, _⟩ | ⟨j, e, _, _, _, h⟩
    · obtain ⟨x, hx, hk⟩ := hex
      exact absurd hk (hno x hx)
    · simp [h]
  · right
    intro w hh
    unfold Instr.lookup
    simp only [Sem.run_bind, run_underlying hm, Result.andThen_ok, getObj, Sem.run, hh, Sem.run_pure, hck]
    rcases findKey_book hs hl ha n k w es.toList hg with ⟨_, h⟩ | ⟨j, e, hj, hk, _, _⟩
    · simp [h, hz]
    · exact absurd ⟨e, List.mem_of_getElem? hj, hk⟩ hex

theorem run_update_book (hm : P.underlying tm = some (.map tk te)) (hs : ∃ fs, P.underlying tk = some (.struct fs)) (hl : layout P 2 tk = some [.int .i64, .int .i64]) (ha : isAggB P tk = true)
    (hck : ∀ e n k w, (Instr.checkKey e 10000 tk (.agg #[.int .i64 n, .int .i64 k])).run P w = .ok () w)
    (n k : Int) (m : Nat) (w : World) (es : Array MapEntry) (clk : Nat) (hh : w.heap[m]? = some (.map es clk)) (hg : GoodEntries es.toList) :
    ∃ es' clk', ∃ hg' : GoodEntries es'.toList, (Instr.mapUpdate tm (.map (some m)) (.agg #[.int .i64 n, .int .i64 k]) (.int .u64 (vF n k))).run P w = .ok () (w.bkd m ⟨es', clk', hg', ⟨#[], w.drawn⟩⟩) := by
  have hset : ∀ es' clk', (hg' : GoodEntries es'.toList) → (setObj m (.map es' clk')).run P w = .ok () (w.bkd m ⟨es', clk', hg', ⟨#[], w.drawn⟩⟩) := by
    intro es' clk' hg'
    simp only [setObj, Sem.run, hh]
    unfold World.bkd
    simp
  unfold Instr.mapUpdate
  simp only [Sem.run_bind, run_underlying hm, Result.andThen_ok, getObj, Sem.run, hh, hck, Sem.run_pure]
  rcases findKey_book hs hl ha n k w es.toList hg with ⟨_, h⟩ | ⟨j, e, hj, hk, hv, h⟩
  · refine ⟨es.push { key := .agg #[.int .i64 n, .int .i64 k], val := .int .u64 (vF n k), born := clk }, clk + 1, ?_, ?_⟩
    · intro x hx
      simp at hx
      rcases hx with hx | rfl
      · exact hg x (by simpa using hx)
      · exact ⟨n, k, rfl, rfl⟩
    · simp only [h, Result.andThen_ok]
      exact hset _ _ _
  · have hold : ((es[j]?).map (·.key)).getD (.agg #[.int .i64 n, .int .i64 k]) = .agg #[.int .i64 n, .int .i64 k] := by
      have : es[j]? = some e := by simpa using hj
      simp [this, hk]
    have hst : (Instr.keyThatStays (.agg #[.int .i64 n, .int .i64 k]) (.agg #[.int .i64 n, .int .i64 k])).run P w = .ok (.agg #[.int .i64 n, .int .i64 k]) w := by
      simp [Instr.keyThatStays, Instr.sameBits]
    refine ⟨es.modify j fun e => { e with key := .agg #[.int .i64 n, .int .i64 k], val := .int .u64 (vF n k) }, clk, ?_, ?_⟩
    · intro x hx
      obtain ⟨i, hi⟩ := List.getElem?_of_mem hx
      simp only [Array.toList_modify, List.getElem?_modify] at hi
      obtain ⟨y, hy, hyx⟩ := Option.map_eq_some_iff.1 hi
      split at hyx
      · subst hyx; exact ⟨n, k, rfl, rfl⟩
      · subst hyx; exact hg y (List.mem_of_getElem? hy)
    · simp only [h, Result.andThen_ok, hold, Sem.run_bind, hst]
      exact hset _ _ _
end

/-! A region that draws its order, beside a book. -/
section
variable {P : Program}
theorem wp_region_bkd {id : Nat} {Q : Exit → Act → World → Prop} {a : Act} {w : World} {m : Nat} {x0 : BookBy} {l : List Oper} (n : Nat) (hm : P.follows .mixedOrders = true) (hB : Region.lexTailB .any l.toArray n = true)
    (h : wpQuiet P l.toArray (fun w' => ∃ x, w' = w.bkd m x) (fun a' => ∀ w', (∃ x, w' = w.bkd m x) → wpList P l.toArray Q (l.drop n) a' w') (l.take n) a) : (Code.region id l.toArray true).wp P Q a (w.bkd m x0) :=
  wp_region_headQ n hm hB ⟨⟨x0.es, x0.clock, x0.good, ⟨x0.gr.objs, x0.gr.drawn + 1⟩⟩, rfl⟩ h
theorem wp_region_bkd_all {id : Nat} {Q : Exit → Act → World → Prop} {a : Act} {w : World} {m : Nat} {x0 : BookBy} {l : List Oper} (hm : P.follows .mixedOrders = true) (hB : Region.lexB .any l.toArray = true)
    (h : wpQuiet P l.toArray (fun w' => ∃ x, w' = w.bkd m x) (fun a' => ∀ w', (∃ x, w' = w.bkd m x) → Q .normal a' w') l a) : (Code.region id l.toArray true).wp P Q a (w.bkd m x0) :=
  wp_region_quiet (C := fun w' => ∃ x, w' = w.bkd m x) hm hB ⟨⟨x0.es, x0.clock, x0.good, ⟨x0.gr.objs, x0.gr.drawn + 1⟩⟩, rfl⟩ (by simpa using h)
/-- A call that leaves a book's world, met in such a world. -/
theorem Calls.bkd_of {f : FuncId} {args : Array Value} {w : World} {m : Nat} {x : BookBy} {v : Value} (hm : m < w.heap.size)
    (h : Calls P f args (w.bkd m x) fun e w' => e = .returned v ∧ Bk m (w.bkd m x) w') : Calls P f args (w.bkd m x) fun e w'' => e = .returned v ∧ ∃ y, w'' = w.bkd m y :=
  h.mono fun _ _ ⟨he, y, hy⟩ => ⟨he, ⟨y.es, y.clock, y.good, ⟨x.gr.objs ++ y.gr.objs, y.gr.drawn⟩⟩, hy.trans (World.bkd_bkd w m x y hm)⟩
theorem Calls.bkd_of_below {f : FuncId} {args : Array Value} {w : World} {m : Nat} {x : BookBy} {v : Value}
    (h : Calls P f args (w.bkd m x) fun e w' => e = .returned v ∧ Below (w.bkd m x).heap.size (w.bkd m x) w') : Calls P f args (w.bkd m x) fun e w'' => e = .returned v ∧ ∃ y, w'' = w.bkd m y :=
  h.mono fun _ _ ⟨he, hb⟩ => ⟨he, by
    obtain ⟨z, hz⟩ := below_as_grew hb
    exact ⟨_, hz.trans (World.grew_bkd w m x z)⟩⟩
end

/-- What follows is shown of every world of which this is known. -/
theorem cut_world {P : Program} {c : Code} {Q : Exit → Act → World → Prop} {a : Act} {w : World} (F : World → Prop) (hF : F w) (h : ∀ W, F W → c.wp P Q a W) : c.wp P Q a w := h w hF
end Go
