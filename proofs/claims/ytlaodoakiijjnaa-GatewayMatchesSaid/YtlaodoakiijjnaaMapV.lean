/- Maps from ints to values: make, look-up, store, delete, len, clear. No condition. -/
import Derived.Test.YtlaodoakiijjnaaRow
import Derived.Test.YtlaodoakiijjnaaRange
namespace Go.Proofs.Ytlaodoakiijjnaa
open Go.RowKit
set_option linter.unusedSimpArgs false
set_option maxHeartbeats 4000000
set_option linter.unusedVariables false

/-- The entries as a list, in the order in which they were laid. -/
def mput (x : Int) (v : Value) : List (Int × Value) → List (Int × Value)
  | [] => [(x, v)]
  | p :: l => if x = p.1 then (p.1, v) :: l else p :: mput x v l
def mdel (x : Int) : List (Int × Value) → List (Int × Value)
  | [] => []
  | p :: l => if x = p.1 then l else p :: mdel x l
def mget (x : Int) : List (Int × Value) → Option Value
  | [] => none
  | p :: l => if x = p.1 then some p.2 else mget x l
theorem mget_none {x : Int} {l : List (Int × Value)} : mget x l = none ↔ ∀ p ∈ l, p.1 ≠ x := by
  induction l with
  | nil => simp [mget]
  | cons p l ih =>
    unfold mget
    split
    · rename_i h; simp [h]
    · rename_i h
      rw [ih]
      constructor
      · intro h1 q hq
        rcases List.mem_cons.1 hq with rfl | hq
        · exact fun e => h e.symm
        · exact h1 q hq
      · intro h1 q hq; exact h1 q (List.mem_cons_of_mem _ hq)
theorem mput_new {x : Int} {v : Value} {l : List (Int × Value)} (h : mget x l = none) : mput x v l = l ++ [(x, v)] := by
  induction l with
  | nil => rfl
  | cons p l ih =>
    unfold mget at h
    unfold mput
    split at h
    · cases h
    · rename_i hne; rw [if_neg hne, ih h]; rfl

def entV (p : Int × Value) : Value × Value := (Value.int .i64 p.1, p.2)
/-- The block holds a map from ints with these entries, in this order. -/
def IsMap (w : World) (r : Nat) (l : List (Int × Value)) : Prop := ∃ es clock, w.heap[r]? = some (.map es clock) ∧ MapKept.Stamped es clock ∧ es.toList.map (fun e => (e.key, e.val)) = l.map entV
theorem IsMap.kept {w w' : World} {r : Nat} {l : List (Int × Value)} {S : List Nat} (h : IsMap w r l) (hf : Fr w w' S) (hS : r ∉ S) : IsMap w' r l := by
  obtain ⟨es, cl, h1, h2⟩ := h
  exact ⟨es, cl, hf.blk h1 hS, h2⟩
theorem IsMap.lt {w : World} {r : Nat} {l : List (Int × Value)} (h : IsMap w r l) : r < w.heap.size := by
  obtain ⟨es, cl, h1, -⟩ := h
  exact (Array.getElem?_eq_some_iff.1 h1).1
theorem findNow_map (x : Int) : ∀ (es : List MapEntry) (l : List (Int × Value)) (i : Nat), es.map (fun e => (e.key, e.val)) = l.map entV →
    (∀ v, mget x l = some v → ∃ j, Instr.findNow (.int .i64) (.int .i64 x) es i = some (some (i + j, v)) ∧ (es[j]?).map (·.key) = some (.int .i64 x) ∧
      (∀ u, (es.modify j fun e => { e with key := .int .i64 x, val := u }).map (fun e => (e.key, e.val)) = (mput x u l).map entV) ∧ (es.eraseIdx j).map (fun e => (e.key, e.val)) = (mdel x l).map entV) ∧
    (mget x l = none → Instr.findNow (.int .i64) (.int .i64 x) es i = some none ∧ mdel x l = l) := by
  intro es
  induction es with
  | nil =>
    intro l i h
    cases l with
    | nil => exact ⟨fun v h => by simp [mget] at h, fun _ => ⟨rfl, rfl⟩⟩
    | cons y l => simp at h
  | cons e es ih =>
    intro l i h
    cases l with
    | nil => simp at h
    | cons y l =>
      simp only [List.map_cons, List.cons.injEq, Prod.mk.injEq, entV] at h
      obtain ⟨⟨h1, h2⟩, h3⟩ := h
      obtain ⟨i1, i2⟩ := ih l (i + 1) h3
      unfold Instr.findNow mget mput mdel
      rw [h1, h2]
      by_cases hxy : x = y.1
      · subst hxy
        simp only [if_pos rfl]
        refine ⟨fun v hv => ?_, fun h => by cases h⟩
        cases hv
        refine ⟨0, by simp [Instr.sameNow], by simp [h1], fun u => ?_, ?_⟩
        · simp only [List.modify_zero_cons, List.map_cons]; rw [h3]; rfl
        · simp only [List.eraseIdx_zero, List.tail_cons]; exact h3
      · have hs : Instr.sameNow (.int .i64) (.int .i64 x) (.int .i64 y.1) = some false := by simp [Instr.sameNow, hxy]
        rw [hs]
        simp only [if_neg hxy]
        refine ⟨fun v hv => ?_, fun h => ?_⟩
        · obtain ⟨j, j1, j2, j3, j4⟩ := i1 v hv
          refine ⟨j + 1, by rw [j1]; congr 3; omega, by simpa using j2, fun u => ?_, ?_⟩
          · simp only [List.modify_succ_cons, List.map_cons, entV, h1, h2]
            rw [j3 u]
          · simp only [List.eraseIdx_cons_succ, List.map_cons, entV, h1, h2]
            rw [j4]
        · obtain ⟨j1, j2⟩ := i2 h
          exact ⟨j1, by rw [j2]⟩

theorem run_checkI {P : Program} {k : Nat} (hk : UT P k (.int .i64)) (e : Bool) (x : Int) (w : World) : (Instr.checkKey e 10000 k (.int .i64 x)).run P w = .ok () w := by
  show (Instr.checkKey e (9999 + 1) k (.int .i64 x)).run P w = _
  rw [Instr.checkKey]
  simp [run_underlying hk.out, go_sem]
theorem sameBits_int (x : Int) : Instr.sameBits 10000 (.int .i64 x) (.int .i64 x) = true := by
  show Instr.sameBits (9999 + 1) _ _ = true
  simp [Instr.sameBits]
section
variable {P : Program} {d : Option Nat} {ty : TypeId} {pos : String} {aft : Array Edge} {g : Option (Nat × Bool)} {ρ : Env} {w : World} {K : Value → World → Prop} {T k v : Nat} {r : Nat} {l : List (Int × Value)}
theorem Ox.makeMapI (h : ∀ r w', IsMap w' r [] → Fr w w' [] → r = w.heap.size → w'.heap.size = w.heap.size + 1 → K (.map (some r)) w') : Ox P ⟨d, .makeMap T none, ty, pos, aft, g⟩ ρ w K := by
  have h' := h w.heap.size (w.alloc (.map #[] 0)) ⟨#[], 0, heap_alloc_new w _, MapKept.stamped_empty 0, rfl⟩ (Fr.new _ _) rfl (by simp)
  simpa [Ox, execOp, Instr.makeMap, go_sem] using h'
theorem Ox.lookupI [hT : UT P T (.map k v)] [hk : UT P k (.int .i64)] {z : Value} (hz : ∀ w, (zeroValue v).run P w = .ok z w) {m ix : Operand} {x : Int} (hm : ev ρ m = .map (some r)) (hi : ev ρ ix = .int .i64 x) (hs : IsMap w r l)
    (h : K ((mget x l).getD z) w) : Ox P ⟨d, .lookup T m ix false, ty, pos, aft, g⟩ ρ w K := by
  obtain ⟨es, cl, h1, h0, h2⟩ := hs
  have hgo : (getObj r).run P w = .ok (.map es cl) w := by simp [getObj, Sem.run, h1]
  obtain ⟨f1, f2⟩ := findNow_map x es.toList l 0 h2
  cases hx : mget x l with
  | some u =>
    obtain ⟨j, hj, -⟩ := f1 u hx
    rw [hx] at h
    simpa [Ox, execOp, hm, hi, Instr.lookup, run_checkI hk, Instr.findKey, run_underlying hT.out, run_underlying hk.out, hgo, hj, go_sem] using h
  | none =>
    obtain ⟨hj, -⟩ := f2 hx
    rw [hx] at h
    simpa [Ox, execOp, hm, hi, Instr.lookup, run_checkI hk, Instr.findKey, run_underlying hT.out, run_underlying hk.out, hgo, hj, hz, go_sem] using h
theorem Ox.lookupIok [hT : UT P T (.map k v)] [hk : UT P k (.int .i64)] {z : Value} (hz : ∀ w, (zeroValue v).run P w = .ok z w) {m ix : Operand} {x : Int} (hm : ev ρ m = .map (some r)) (hi : ev ρ ix = .int .i64 x) (hs : IsMap w r l)
    (h : K (.tuple #[(mget x l).getD z, .bool (mget x l).isSome]) w) : Ox P ⟨d, .lookup T m ix true, ty, pos, aft, g⟩ ρ w K := by
  obtain ⟨es, cl, h1, h0, h2⟩ := hs
  have hgo : (getObj r).run P w = .ok (.map es cl) w := by simp [getObj, Sem.run, h1]
  obtain ⟨f1, f2⟩ := findNow_map x es.toList l 0 h2
  cases hx : mget x l with
  | some u =>
    obtain ⟨j, hj, -⟩ := f1 u hx
    rw [hx] at h
    simpa [Ox, execOp, hm, hi, Instr.lookup, run_checkI hk, Instr.findKey, run_underlying hT.out, run_underlying hk.out, hgo, hj, go_sem] using h
  | none =>
    obtain ⟨hj, -⟩ := f2 hx
    rw [hx] at h
    simpa [Ox, execOp, hm, hi, Instr.lookup, run_checkI hk, Instr.findKey, run_underlying hT.out, run_underlying hk.out, hgo, hj, hz, go_sem] using h
theorem Ox.storeI [hT : UT P T (.map k v)] [hk : UT P k (.int .i64)] {m ix y : Operand} {x : Int} {u : Value} (hm : ev ρ m = .map (some r)) (hi : ev ρ ix = .int .i64 x) (hy : ev ρ y = u) (hs : IsMap w r l)
    (h : ∀ w', IsMap w' r (mput x u l) → Fr w w' [r] → w'.heap.size = w.heap.size → K undef w') : Ox P ⟨d, .mapUpdate T m ix y, ty, pos, aft, g⟩ ρ w K := by
  obtain ⟨es, cl, h1, h0, h2⟩ := hs
  have hlt := (Array.getElem?_eq_some_iff.1 h1).1
  have hgo : (getObj r).run P w = .ok (.map es cl) w := by simp [getObj, Sem.run, h1]
  have hst : ∀ o, (setObj r o).run P w = .ok () (w.putObj r o) := by intro o; simp [setObj, Sem.run, h1, World.putObj]
  have hb : ∀ o, (w.putObj r o).heap[r]? = some o := by intro o; simp [World.putObj, hlt]
  obtain ⟨f1, f2⟩ := findNow_map x es.toList l 0 h2
  cases hx : mget x l with
  | some u0 =>
    obtain ⟨j, hj, hk1, hk2, -⟩ := f1 u0 hx
    rw [Nat.zero_add] at hj
    have hkey : ((es[j]?).map (·.key)).getD (.int .i64 x) = .int .i64 x := by
      rw [← Array.getElem?_toList, hk1]; rfl
    have hst' : MapKept.Stamped (es.modify j fun e => { e with key := .int .i64 x, val := u }) cl := MapKept.stamped_modify h0 j _ (fun e _ => rfl) (fun e _ he => by
      have := hk1; rw [Array.getElem?_toList, he] at this; simpa using this.symm)
    have h' := h (w.putObj r (.map (es.modify j fun e => { e with key := .int .i64 x, val := u }) cl)) ⟨_, cl, hb _, hst', by rw [Array.toList_modify]; exact hk2 u⟩ ((Fr.refl _ _).put (.inl (by simp)) _) (by simp [World.putObj])
    simpa [Ox, execOp, hm, hi, hy, Instr.mapUpdate, run_checkI hk, Instr.findKey, run_underlying hT.out, run_underlying hk.out, hgo, hst, hj, Instr.keyThatStays, hkey, sameBits_int, go_sem] using h'
  | none =>
    obtain ⟨hj, -⟩ := f2 hx
    have hne : ∀ e ∈ es.toList, e.key ≠ .int .i64 x := by
      intro e he hek
      have hm' : (e.key, e.val) ∈ l.map entV := by rw [← h2]; exact List.mem_map_of_mem he
      obtain ⟨p, hp, hpe⟩ := List.mem_map.1 hm'
      simp only [entV, Prod.mk.injEq] at hpe
      rw [hek] at hpe
      exact (mget_none.1 hx p hp) (by simpa using hpe.1)
    have h' := h (w.putObj r (.map (es.push { key := .int .i64 x, val := u, born := cl }) (cl + 1))) ⟨_, _, hb _, MapKept.stamped_push h0 hne, by rw [mput_new hx]; simp [h2, entV]⟩ ((Fr.refl _ _).put (.inl (by simp)) _) (by simp [World.putObj])
    simpa [Ox, execOp, hm, hi, hy, Instr.mapUpdate, run_checkI hk, Instr.findKey, run_underlying hT.out, run_underlying hk.out, hgo, hst, hj, go_sem] using h'
theorem Ox.deleteI {kt : Nat} [hT : UT P T (.map k v)] [hk : UT P k (.int .i64)] {m ix : Operand} {x : Int} (hm : ev ρ m = .map (some r)) (hi : ev ρ ix = .int .i64 x) (hs : IsMap w r l)
    (h : ∀ w', IsMap w' r (mdel x l) → Fr w w' [r] → w'.heap.size = w.heap.size → K (.tuple #[]) w') : Ox P ⟨d, .call { callee := .builtin .delete, args := #[m, ix], argTypes := #[T, kt] }, ty, pos, aft, g⟩ ρ w K := by
  obtain ⟨es, cl, h1, h0, h2⟩ := hs
  have hlt := (Array.getElem?_eq_some_iff.1 h1).1
  have hgo : (getObj r).run P w = .ok (.map es cl) w := by simp [getObj, Sem.run, h1]
  have hst : ∀ o, (setObj r o).run P w = .ok () (w.putObj r o) := by intro o; simp [setObj, Sem.run, h1, World.putObj]
  have hb : ∀ o, (w.putObj r o).heap[r]? = some o := by intro o; simp [World.putObj, hlt]
  obtain ⟨f1, f2⟩ := findNow_map x es.toList l 0 h2
  cases hx : mget x l with
  | some u0 =>
    obtain ⟨j, hj, hk1, -, hk2⟩ := f1 u0 hx
    rw [Nat.zero_add] at hj
    have hjl : j < es.size := by
      rw [Option.map_eq_some_iff] at hk1
      obtain ⟨e, he, -⟩ := hk1
      simpa using (List.getElem?_eq_some_iff.1 he).1
    have h' := h (w.putObj r (.map (es.eraseIdxIfInBounds j) cl)) ⟨_, cl, hb _, MapKept.stamped_erase h0 j, by
      unfold Array.eraseIdxIfInBounds
      rw [dif_pos hjl, Array.toList_eraseIdx]; exact hk2⟩ ((Fr.refl _ _).put (.inl (by simp)) _) (by simp [World.putObj])
    simpa [Ox, execOp, resolve, hm, hi, invoke, builtin, Builtin.delete_, run_checkI hk, Instr.findKey, run_underlying hT.out, run_underlying hk.out, hgo, hst, hj, go_sem] using h'
  | none =>
    obtain ⟨hj, hd⟩ := f2 hx
    have h' := h (w.putObj r (.map es cl)) ⟨_, cl, hb _, h0, by rw [hd]; exact h2⟩ ((Fr.refl _ _).put (.inl (by simp)) _) (by simp [World.putObj])
    simpa [Ox, execOp, resolve, hm, hi, invoke, builtin, Builtin.delete_, run_checkI hk, Instr.findKey, run_underlying hT.out, run_underlying hk.out, hgo, hst, hj, go_sem] using h'
theorem Ox.lenMap [hT : UT P T (.map k v)] {x : Operand} (hx : ev ρ x = .map (some r)) (hs : IsMap w r l) (h : K (.int .i64 l.length) w) :
    Ox P ⟨d, .call { callee := .builtin .len, args := #[x], argTypes := #[T] }, ty, pos, aft, g⟩ ρ w K := by
  obtain ⟨es, cl, h1, h0, h2⟩ := hs
  have hgo : (getObj r).run P w = .ok (.map es cl) w := by simp [getObj, Sem.run, h1]
  have hl : es.size = l.length := by have := congrArg List.length h2; simpa using this
  rw [← hl] at h
  simpa [Ox, execOp, resolve, hx, invoke, builtin, Builtin.len_, run_underlying hT.out, hgo, go_sem] using h
theorem Ox.clearMap [hT : UT P T (.map k v)] {x : Operand} (hx : ev ρ x = .map (some r)) (hs : IsMap w r l)
    (h : ∀ w', IsMap w' r [] → Fr w w' [r] → w'.heap.size = w.heap.size → K (.tuple #[]) w') :
    Ox P ⟨d, .call { callee := .builtin .clear, args := #[x], argTypes := #[T] }, ty, pos, aft, g⟩ ρ w K := by
  obtain ⟨es, cl, h1, h0, h2⟩ := hs
  have hlt := (Array.getElem?_eq_some_iff.1 h1).1
  have hgo : (getObj r).run P w = .ok (.map es cl) w := by simp [getObj, Sem.run, h1]
  have hst : ∀ o, (setObj r o).run P w = .ok () (w.putObj r o) := by intro o; simp [setObj, Sem.run, h1, World.putObj]
  have h' := h (w.putObj r (.map #[] cl)) ⟨_, cl, by simp [World.putObj, hlt], MapKept.stamped_empty cl, rfl⟩ ((Fr.refl _ _).put (.inl (by simp)) _) (by simp [World.putObj])
  simpa [Ox, execOp, resolve, hx, invoke, builtin, Builtin.clear_, run_underlying hT.out, hgo, hst, go_sem] using h'
end
end Go.Proofs.Ytlaodoakiijjnaa
