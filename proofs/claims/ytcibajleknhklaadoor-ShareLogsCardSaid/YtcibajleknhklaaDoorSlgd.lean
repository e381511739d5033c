/-
  How many vectors there are, as a table of plain numbers.
  (One text out of these parts: RefAl15, MapE, Vec.)
-/
import Derived.Test.YtcibajleknhklaaDoorSlgc
import Derived.Test.YtcibajleknhklaaDoorPShareTellsx0
import Derived.WideKeyEntry
import Derived.Maps.OwnOps
import Derived.Maps.RangeWalk
import Derived.DeepKeys4
import Derived.KernelRfl
section
namespace Go.Proofs.YtcibajleknhklaaDoor.RShareTells
open Go.RowKit Go.Proofs.YtcibajleknhklaaDoorW.PrintWords Go.Proofs.YtcibajleknhklaaDoorW.PrintLast Go.Proofs.YtcibajleknhklaaDoorW.PrintMore
attribute [local go_sem] max2_int min2_int max_two min_two max_three min_three max_four min_four   -- for this text's walks alone
set_option linter.unusedVariables false
set_option linter.unusedSimpArgs false
open Go.Proofs.YtcibajleknhklaaDoor.PShareTells
end Go.Proofs.YtcibajleknhklaaDoor.RShareTells
end

section
namespace Go
open Go.ChangeMaps Go.MapKept Go.WideElems Go.WideMaps
open Go.Maps (Keyed)
set_option linter.unusedSimpArgs false
set_option linter.unusedVariables false
section
variable {H : Type} {P : Program} {w : World} {t k e : TypeId} {b n : Nat} {D : DataW H} {q : IntKind}
theorem heap_of_set {w : World} {b : Nat} {es0 : Array MapEntry} {c0 : Nat} {o1 o2 : Obj} (hb : w.heap[b]? = some (.map es0 c0)) (h : setBlock w b o1 = setBlock w b o2) : o1 = o2 := by
  have := congrArg (fun u : World => u.heap[b]?) h
  simp only [heap_setBlock_same hb] at this
  exact Option.some.inj this
theorem setBlock_self {W : World} {b : Nat} {o : Obj} (hb : W.heap[b]? = some o) : setBlock W b o = W := by
  unfold setBlock
  congr 1
  apply Array.ext_getElem?
  intro i
  rw [Array.getElem?_setIfInBounds]
  by_cases h : b = i
  · subst h
    rw [if_pos rfl, hb]
    simp [(Array.getElem?_eq_some_iff.1 hb).1]
  · rw [if_neg h]
/-- What 'm[k]++' comes to, whichever of its steps has been taken. -/
theorem own_entry (h : w.ownsMap P k (plainElem P e) b n D) (K : KeyLaw P k) (ht : P.underlying t = some (.map k e)) (he : P.underlying e = some (.int q)) (hz : ∀ u : World, (zeroValue e).run P u = .ok (.int q 0) u) (hn : n < maxLen)
    {key : Value} {kl : Lit} (hkey : keyOf P k key = some kl) :
    ∃ (es es1 : Array MapEntry) (clock clock1 : Nat) (v0 : Value) (st : Nat) (c : Int), w.heap[b]? = some (.map es clock) ∧ D.atKey kl (.lit (.int q 0)) = .lit (.int q c) ∧ (Lit.int q c).wf = true ∧
      ∀ W : World, (W.heap[b]? = some (.map es clock) ∨ W.heap[b]? = some (.map es1 clock1)) →
        (Instr.lookup t (.map (some b)) key false).run P W = .ok (.int q c) W ∧
        (Instr.mapEntry t (.map (some b)) key).run P W = .ok (.tuple #[v0, goInt st]) (setBlock W b (.map es1 clock1)) ∧
        ∀ (val : Value) (d : DataW H), W.heap[b]? = some (.map es1 clock1) → plainElem P e val = some (d, []) →
          ∃ es' clock', (Instr.entryStore t (.map (some b)) (goInt st) val).run P W = .ok () (setBlock W b (.map es' clock')) ∧ (setBlock W b (.map es' clock')).ownsMap P k (plainElem P e) b (n + 1) (D.put kl d) := by
  have K' : Keyed P k := Keyed.of_law K
  have hw0 : (Lit.int q 0).wf = true := by cases q <;> decide
  obtain ⟨c, hrunc, hatc, hwc⟩ := h.lookup_int K' ht he (hz w) hkey
  obtain ⟨es, clock, hb, F, hs, hD⟩ := h
  have hown : ∀ W : World, W.heap[b]? = some (.map es clock) → W.ownsMap P k (plainElem P e) b n D := fun W hW => ⟨es, clock, hW, F, hs, hD⟩
  have hlk : ∀ W : World, W.heap[b]? = some (.map es clock) → (Instr.lookup t (.map (some b)) key false).run P W = .ok (.int q c) W := fun W hW => by
    obtain ⟨c', hr, ha, _⟩ := (hown W hW).lookup_int K' ht he (hz W) hkey
    rw [hatc] at ha
    simp only [DataW.lit.injEq, Lit.int.injEq, true_and] at ha
    rw [hr, ha]
  obtain ⟨s1, s2, _⟩ := F.stamped
  have hupd : ∀ (val : Value) (d : DataW H), plainElem P e val = some (d, []) → ∃ es' clock', (Instr.mapUpdate t (.map (some b)) key val).run P w = .ok () (setBlock w b (.map es' clock')) ∧
      (∀ (W : World) (es0 : Array MapEntry) (c0 : Nat), W.heap[b]? = some (.map es0 c0) → (setBlock W b (.map es' clock')).ownsMap P k (plainElem P e) b (n + 1) (D.put kl d)) ∧ Fit P k (plainElem (H := H) P e) es' clock' := fun val d hv => by
    obtain ⟨es', clock', hrun, F', hput, _⟩ := Maps.fit_store (R' := plainElem P e) K' ht hb F (Nat.lt_of_le_of_lt hs hn) (fun _ _ _ _ hz => hz) hkey hv
    refine ⟨es', clock', hrun, fun W es0 c0 hW => ⟨es', clock', heap_setBlock_same hW _, F', ?_, ?_⟩, F'⟩
    · have e1 : es'.size = ((es'.toList.map (rg P k (plainElem (H := H) P e))).foldr DataW.insert []).length := by rw [length_sorted]; simp
      rw [e1, hput]
      unfold putKey
      rw [length_insert]
      have e2 := List.length_filter_le (notKey kl) ((es.toList.map (rg P k (plainElem (H := H) P e))).foldr DataW.insert [])
      rw [length_sorted] at e2
      simp at e2
      omega
    · rw [hD, DataW.put_eq, hput]
  have hnone : (Instr.findKey k key es.toList).run P w = .ok none w ∧ (∀ x ∈ es.toList, x.key ≠ key) ∨ ∃ j e0, (Instr.findKey k key es.toList).run P w = .ok (some (j, e0.val)) w ∧ es.toList[j]? = some e0 ∧ e0.key = key := K.find w hkey es.toList F.keys
  rcases hnone with ⟨h1, h2⟩ | ⟨j, e0, h1, h2, h3⟩
  · have hf : ∀ W : World, (Instr.findKey k key es.toList).run P W = .ok none W := fun W => by
      rcases K.find W hkey es.toList F.keys with ⟨g1, _⟩ | ⟨j, e0, _, g2, g3⟩
      · exact g1
      · exact absurd g3 (h2 e0 (List.mem_of_getElem? g2))
    have hc0 : c = 0 := by
      have : (Instr.lookup t (.map (some b)) key false).run P w = .ok (.int q 0) w := by
        simp [Instr.lookup, run_underlying ht, MapKept.run_getObj_map hb, K.check w _ hkey, h1, hz, Result.andThen]
      rw [hrunc] at this
      simp only [Result.ok.injEq, Value.int.injEq, true_and, and_true] at this
      exact this
    have hmu : ∀ val, (Instr.mapUpdate t (.map (some b)) key val).run P w = .ok () (setBlock w b (.map (es.push ⟨key, val, clock⟩) (clock + 1))) := fun val => by
      simp [Instr.mapUpdate, run_underlying ht, MapKept.run_getObj_map hb, K.check w false hkey, h1, MapKept.run_setObj_map _ hb, Result.andThen, setBlock]
    have hpush : ∀ val (d : DataW H), plainElem P e val = some (d, []) → (∀ (W : World) (es0 : Array MapEntry) (c0 : Nat), W.heap[b]? = some (.map es0 c0) → (setBlock W b (.map (es.push ⟨key, val, clock⟩) (clock + 1))).ownsMap P k (plainElem P e) b (n + 1) (D.put kl d)) ∧ Fit P k (plainElem (H := H) P e) (es.push ⟨key, val, clock⟩) (clock + 1) := fun val d hv => by
      obtain ⟨es', clock', hrun, ho, F'⟩ := hupd val d hv
      rw [hmu val] at hrun
      simp only [Result.ok.injEq, true_and] at hrun
      have := heap_of_set hb hrun
      simp only [Obj.map.injEq] at this
      obtain ⟨rfl, rfl⟩ := this
      exact ⟨ho, F'⟩
    obtain ⟨-, F1⟩ := hpush (.int q 0) (.lit (.int q 0)) (plainElem_int he hw0)
    obtain ⟨s1', s2', _⟩ := F1.stamped
    have hidx : (es.push ⟨key, .int q 0, clock⟩).findIdx? (fun e => ((e.born : Nat) : Int) == ((clock : Nat) : Int)) = some es.size := by
      rw [findIdx_arr]
      exact findIdx_born (l := (es.push ⟨key, .int q 0, clock⟩).toList) (j := es.size) (e0 := ⟨key, .int q 0, clock⟩) s2' (by simp)
    refine ⟨es, es.push ⟨key, .int q 0, clock⟩, clock, clock + 1, .int q 0, clock, c, hb, hatc, hwc, fun W hW => ?_⟩
    rcases hW with hA | hB
    · refine ⟨hlk W hA, ?_, fun val d hB hv => ?_⟩
      · simp [Instr.mapEntry, run_underlying ht, MapKept.run_getObj_map hA, K.check W false hkey, hf W, hz, MapKept.run_setObj_map _ hA, Result.andThen, setBlock]
      · rw [hA] at hB
        simp only [Option.some.injEq, Obj.map.injEq] at hB
        have := congrArg Array.size hB.1
        simp at this
    · have hfB : ∃ j e0, (Instr.findKey k key (es.push ⟨key, .int q 0, clock⟩).toList).run P W = .ok (some (j, e0.val)) W ∧ (es.push ⟨key, .int q 0, clock⟩).toList[j]? = some e0 ∧ e0.key = key := by
        rcases K.find W hkey (es.push ⟨key, .int q 0, clock⟩).toList F1.keys with ⟨_, g2⟩ | g
        · exact absurd rfl (g2 ⟨key, .int q 0, clock⟩ (by simp))
        · exact g
      obtain ⟨j, e0, g1, g2, g3⟩ := hfB
      have hm : e0 ∈ (es.push ⟨key, .int q 0, clock⟩).toList := List.mem_of_getElem? g2
      have he0 : e0 = ⟨key, .int q 0, clock⟩ := by
        simp only [Array.toList_push, List.mem_append, List.mem_singleton] at hm
        rcases hm with hm | hm
        · exact absurd g3 (h2 e0 hm)
        · exact hm
      subst he0
      obtain ⟨E, hE⟩ : ∃ E, es.push ⟨key, .int q 0, clock⟩ = E := ⟨_, rfl⟩
      rw [hE] at g1 g2 hB hidx ⊢
      have hj : E[j]? = some ⟨key, .int q 0, clock⟩ := by rw [← Array.getElem?_toList]; exact g2
      have hsame : E.modify j (fun e => { e with key := key }) = E := by
        apply Array.ext'
        rw [Array.toList_modify, modify_eq_set _ _ _ _ g2]
        exact set_self _ _ _ g2
      refine ⟨?_, ?_, fun val d _ hv => ?_⟩
      · rw [hc0]
        simp [Instr.lookup, run_underlying ht, MapKept.run_getObj_map hB, K.check W _ hkey, g1, Result.andThen]
      · rw [setBlock_self hB]
        simp [Instr.mapEntry, run_underlying ht, MapKept.run_getObj_map hB, K.check W false hkey, g1, hj, K.stays W hkey, hsame, MapKept.run_setObj_map _ hB, Result.andThen]
        exact setBlock_self hB
      · obtain ⟨ho, _⟩ := hpush val d hv
        have hmod : E.modify es.size (fun e => { e with val := val }) = es.push ⟨key, val, clock⟩ := by
          rw [← hE]
          apply Array.ext'
          rw [Array.toList_modify, Array.toList_push, Array.toList_push, ← Array.length_toList, modify_last]
        refine ⟨es.push ⟨key, val, clock⟩, clock + 1, ?_, ho W _ _ hB⟩
        simp [Instr.entryStore, MapKept.run_getObj_map hB, asInt, asIntOf, goInt, hidx, hmod, MapKept.run_setObj_map _ hB, Result.andThen, setBlock]
  · have hinj : ∀ j' (e0' : MapEntry), es.toList[j']? = some e0' → e0'.key = key → e0' = e0 ∧ j' = j := fun j' e0' g2 g3 => by
      have hpw := F.stamped.2.2
      have e1 : e0' = e0 := entry_eq_of_key (List.pairwise_map.1 hpw) (List.mem_of_getElem? g2) (List.mem_of_getElem? h2) (g3.trans h3.symm)
      subst e1
      refine ⟨rfl, ?_⟩
      have hm1 : (es.toList.map (·.born))[j']? = some e0'.born := by rw [List.getElem?_map, g2]; rfl
      have hm2 : (es.toList.map (·.born))[j]? = some e0'.born := by rw [List.getElem?_map, h2]; rfl
      exact (List.getElem?_inj (List.getElem?_eq_some_iff.1 hm1).1 s2).1 (hm1.trans hm2.symm)
    have hfA : ∀ W : World, (Instr.findKey k key es.toList).run P W = .ok (some (j, e0.val)) W := fun W => by
      rcases K.find W hkey es.toList F.keys with ⟨_, g2⟩ | ⟨j', e0', g1, g2, g3⟩
      · exact absurd h3 (g2 e0 (List.mem_of_getElem? h2))
      · obtain ⟨rfl, rfl⟩ := hinj j' e0' g2 g3
        exact g1
    have hj : es[j]? = some e0 := by simpa using h2
    have hsame : es.modify j (fun e => { e with key := key }) = es := by
      apply Array.ext'
      rw [Array.toList_modify, modify_eq_set _ _ _ _ h2]
      have : ({ e0 with key := key } : MapEntry) = e0 := by rw [← h3]
      rw [this]
      exact set_self _ _ _ h2
    have hidx : es.findIdx? (fun e => ((e.born : Nat) : Int) == ((e0.born : Nat) : Int)) = some j := by
      rw [findIdx_arr]
      exact findIdx_born s2 h2
    refine ⟨es, es, clock, clock, e0.val, e0.born, c, hb, hatc, hwc, fun W hW => ?_⟩
    have hA : W.heap[b]? = some (.map es clock) := hW.elim id id
    refine ⟨hlk W hA, ?_, fun val d _ hv => ?_⟩
    · rw [setBlock_self hA]
      simp [Instr.mapEntry, run_underlying ht, MapKept.run_getObj_map hA, K.check W false hkey, hfA W, hj, h3, K.stays W hkey, hsame, MapKept.run_setObj_map _ hA, Result.andThen]
      exact setBlock_self hA
    · obtain ⟨es', clock', hrun, ho, _⟩ := hupd val d hv
      have hmu : (Instr.mapUpdate t (.map (some b)) key val).run P w = .ok () (setBlock w b (.map (es.modify j (fun e' => { e' with key := key, val := val })) clock)) := by
        simp [Instr.mapUpdate, run_underlying ht, MapKept.run_getObj_map hb, K.check w false hkey, hfA w, hj, h3, K.stays w hkey, MapKept.run_setObj_map _ hb, Result.andThen, setBlock]
      rw [hmu] at hrun
      simp only [Result.ok.injEq, true_and] at hrun
      have := heap_of_set hb hrun
      simp only [Obj.map.injEq] at this
      obtain ⟨rfl, rfl⟩ := this
      have hmod : es.modify j (fun e => { e with val := val }) = es.modify j (fun e' => { e' with key := key, val := val }) := by
        apply Array.ext'
        rw [Array.toList_modify, Array.toList_modify, modify_eq_set _ _ _ _ h2, modify_eq_set _ _ _ _ h2, ← h3]
      refine ⟨_, _, ?_, ho W _ _ hA⟩
      simp [Instr.entryStore, MapKept.run_getObj_map hA, asInt, asIntOf, goInt, hidx, hmod, MapKept.run_setObj_map _ hA, Result.andThen, setBlock]
end
end Go
end

section
namespace Go.Vec
/-- The row behind a row: v(k) = up(k) + v(k-1) + up(k-1), from v(0) = 1 on. -/
def rowFrom : Nat → Nat → List Nat → List Nat
  | last, upLast, u :: us => (u + last + upLast) :: rowFrom (u + last + upLast) u us
  | _, _, [] => []
def nextRow : List Nat → List Nat
  | u :: us => 1 :: rowFrom 1 u us
  | [] => []
def row : Nat → List Nat
  | 0 => 1 :: List.replicate 32 0
  | n + 1 => nextRow (row n)
def all : List (List Nat) := (List.range 17).map row
/-- V(n, k), n up to 16, k up to 32. -/
def v (n k : Nat) : Nat := ((row n).getD k 0)
theorem v_rec : ∀ n : Fin 16, ∀ k : Fin 32, v (n.val + 1) (k.val + 1) = v n.val (k.val + 1) + v (n.val + 1) k.val + v n.val k.val := by decide +kernel
theorem v_zero : ∀ n : Fin 17, v n.val 0 = 1 := by decide +kernel
theorem v_le : ∀ n : Fin 17, ∀ k : Fin 33, v n.val k.val ≤ 100000000000000000 := by decide +kernel
/-- V of any whole numbers: 0 outside. -/
def vF (n k : Int) : Int := if 0 ≤ n ∧ n ≤ 16 ∧ 0 ≤ k ∧ k ≤ 32 then (v n.toNat k.toNat : Nat) else 0
theorem vF_out (n k : Int) (h : ¬(0 ≤ n ∧ n ≤ 16 ∧ 0 ≤ k ∧ k ≤ 32)) : vF n k = 0 := by unfold vF; rw [if_neg h]
end Go.Vec
end

