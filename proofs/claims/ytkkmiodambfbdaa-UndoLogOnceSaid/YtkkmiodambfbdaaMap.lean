/- Sets of ints as maps to bool: makeMap, lookup, mapUpdate. No condition. -/
import Derived.Test.YtkkmiodambfbdaaRow
import Derived.Test.YtkkmiodambfbdaaRange
namespace Go.Proofs.Ytkkmiodambfbdaa
open Go.RowKit
set_option linter.unusedSimpArgs false
set_option maxHeartbeats 4000000
set_option linter.unusedVariables false

/-- The block holds a map from ints to bool in which the given ints are true. -/
def IsSet (w : World) (r : Nat) (l : List Int) : Prop := ∃ es clock, w.heap[r]? = some (.map es clock) ∧ es.toList.map (fun e => (e.key, e.val)) = l.map (fun x => (Value.int .i64 x, Value.bool true))
theorem IsSet.kept {w w' : World} {r : Nat} {l : List Int} {S : List Nat} (h : IsSet w r l) (hf : Fr w w' S) (hS : r ∉ S) : IsSet w' r l := by
  obtain ⟨es, cl, h1, h2⟩ := h
  exact ⟨es, cl, hf.blk h1 hS, h2⟩
theorem findNow_set (x : Int) : ∀ (es : List MapEntry) (l : List Int) (i : Nat), es.map (fun e => (e.key, e.val)) = l.map (fun x => (Value.int .i64 x, Value.bool true)) →
    (x ∈ l → ∃ j, Instr.findNow (.int .i64) (.int .i64 x) es i = some (some (j, .bool true))) ∧ (x ∉ l → Instr.findNow (.int .i64) (.int .i64 x) es i = some none) := by
  intro es
  induction es with
  | nil =>
    intro l i h
    cases l with
    | nil => exact ⟨fun h => by simp at h, fun _ => rfl⟩
    | cons y l => simp at h
  | cons e es ih =>
    intro l i h
    cases l with
    | nil => simp at h
    | cons y l =>
      simp only [List.map_cons, List.cons.injEq, Prod.mk.injEq] at h
      obtain ⟨⟨h1, h2⟩, h3⟩ := h
      obtain ⟨i1, i2⟩ := ih l (i + 1) h3
      unfold Instr.findNow
      rw [h1, h2]
      by_cases hxy : x = y
      · subst hxy
        exact ⟨fun _ => ⟨i, by simp [Instr.sameNow]⟩, fun h => absurd (by simp) h⟩
      · have hs : Instr.sameNow (.int .i64) (.int .i64 x) (.int .i64 y) = some false := by simp [Instr.sameNow, hxy]
        rw [hs]
        exact ⟨fun h => i1 (by simpa [hxy] using h), fun h => i2 (fun h' => h (by simp [h']))⟩

theorem run_checkInt {P : Program} {k : Nat} (hk : UT P k (.int .i64)) (e : Bool) (x : Int) (w : World) : (Instr.checkKey e 10000 k (.int .i64 x)).run P w = .ok () w := by
  show (Instr.checkKey e (9999 + 1) k (.int .i64 x)).run P w = _
  rw [Instr.checkKey]
  simp [run_underlying hk.out, go_sem]
section
variable {P : Program} {d : Option Nat} {ty : TypeId} {pos : String} {aft : Array Edge} {g : Option (Nat × Bool)} {ρ : Env} {w : World} {K : Value → World → Prop} {T k v : Nat}
theorem Ox.makeSet (h : ∀ r w', IsSet w' r [] → Fr w w' [] → r = w.heap.size → w'.heap.size = w.heap.size + 1 → K (.map (some r)) w') : Ox P ⟨d, .makeMap T none, ty, pos, aft, g⟩ ρ w K := by
  have h' := h w.heap.size (w.alloc (.map #[] 0)) ⟨#[], 0, heap_alloc_new w _, rfl⟩ (Fr.new _ _) rfl (by simp)
  simpa [Ox, execOp, Instr.makeMap, go_sem] using h'
theorem Ox.lookupSet [hT : UT P T (.map k v)] [hk : UT P k (.int .i64)] [hE : EI P v (.bool false) 1 1] {m ix : Operand} {r : Nat} {x : Int} {l : List Int} (hm : ev ρ m = .map (some r)) (hi : ev ρ ix = .int .i64 x) (hs : IsSet w r l)
    (h : K (.bool (decide (x ∈ l))) w) : Ox P ⟨d, .lookup T m ix false, ty, pos, aft, g⟩ ρ w K := by
  obtain ⟨es, cl, h1, h2⟩ := hs
  obtain ⟨i0, hi0, hz0, hz1, hz2⟩ := info_parts hE.out
  have hgo : (getObj r).run P w = .ok (.map es cl) w := by simp [getObj, Sem.run, h1]
  obtain ⟨f1, f2⟩ := findNow_set x es.toList l 0 h2
  by_cases hx : x ∈ l
  · obtain ⟨j, hj⟩ := f1 hx
    rw [decide_eq_true hx] at h
    simpa [Ox, execOp, hm, hi, Instr.lookup, run_checkInt hk, Instr.findKey, run_underlying hT.out, run_underlying hk.out, hgo, hj, go_sem] using h
  · have hj := f2 hx
    rw [decide_eq_false hx] at h
    simpa [Ox, execOp, hm, hi, Instr.lookup, run_checkInt hk, Instr.findKey, run_underlying hT.out, run_underlying hk.out, hgo, hj, zeroValue, typeInfo, hi0, hz0, go_sem] using h
theorem IsSet.put {w : World} {r : Nat} {es : Array MapEntry} {cl : Nat} {l : List Int} {x : Int} (h1 : w.heap[r]? = some (.map es cl)) (h2 : es.toList.map (fun e => (e.key, e.val)) = l.map (fun x => (Value.int .i64 x, Value.bool true))) :
    IsSet (w.putObj r (.map (es.push { key := .int .i64 x, val := .bool true, born := cl }) (cl + 1))) r (l ++ [x]) := by
  refine ⟨es.push { key := .int .i64 x, val := .bool true, born := cl }, cl + 1, ?_, ?_⟩
  · have hlt := (Array.getElem?_eq_some_iff.1 h1).1
    simp [World.putObj, hlt]
  · simp [h2]
theorem Ox.putSet [hT : UT P T (.map k v)] [hk : UT P k (.int .i64)] {m ix y : Operand} {r : Nat} {x : Int} {l : List Int} (hm : ev ρ m = .map (some r)) (hi : ev ρ ix = .int .i64 x) (hy : ev ρ y = .bool true) (hs : IsSet w r l) (hx : x ∉ l)
    (h : ∀ w', IsSet w' r (l ++ [x]) → Fr w w' [r] → w'.heap.size = w.heap.size → K undef w') : Ox P ⟨d, .mapUpdate T m ix y, ty, pos, aft, g⟩ ρ w K := by
  obtain ⟨es, cl, h1, h2⟩ := hs
  have hgo : (getObj r).run P w = .ok (.map es cl) w := by simp [getObj, Sem.run, h1]
  have hst : ∀ o, (setObj r o).run P w = .ok () (w.putObj r o) := by intro o; simp [setObj, Sem.run, h1, World.putObj]
  have hj := (findNow_set x es.toList l 0 h2).2 hx
  have h' := h _ (IsSet.put h1 h2) ((Fr.refl _ _).put (.inl (by simp)) _) (by simp [World.putObj])
  simpa [Ox, execOp, hm, hi, hy, Instr.mapUpdate, run_checkInt hk, Instr.findKey, run_underlying hT.out, run_underlying hk.out, hgo, hst, hj, go_sem] using h'
end
end Go.Proofs.Ytkkmiodambfbdaa
