/- What a call answers where results lie in memory. No condition. -/
import Derived.Test.YthpdpipcfhodoaaOps
namespace Go.Proofs.Ythpdpipcfhodoaa
open Go.RowKit
set_option linter.unusedSimpArgs false
set_option linter.unusedVariables false
theorem rg2 : Array.range 2 = #[0, 1] := by decide
theorem rg3 : Array.range 3 = #[0, 1, 2] := by decide
theorem rg4 : Array.range 4 = #[0, 1, 2, 3] := by decide
theorem rg5 : Array.range 5 = #[0, 1, 2, 3, 4] := by decide
theorem rg6 : Array.range 6 = #[0, 1, 2, 3, 4, 5] := by decide
theorem rg7 : Array.range 7 = #[0, 1, 2, 3, 4, 5, 6] := by decide
theorem rg8 : Array.range 8 = #[0, 1, 2, 3, 4, 5, 6, 7] := by decide
theorem rg9 : Array.range 9 = #[0, 1, 2, 3, 4, 5, 6, 7, 8] := by decide
theorem rg10 : Array.range 10 = #[0, 1, 2, 3, 4, 5, 6, 7, 8, 9] := by decide
theorem rg11 : Array.range 11 = #[0, 1, 2, 3, 4, 5, 6, 7, 8, 9, 10] := by decide
theorem rg12 : Array.range 12 = #[0, 1, 2, 3, 4, 5, 6, 7, 8, 9, 10, 11] := by decide
theorem rg13 : Array.range 13 = #[0, 1, 2, 3, 4, 5, 6, 7, 8, 9, 10, 11, 12] := by decide
theorem rg14 : Array.range 14 = #[0, 1, 2, 3, 4, 5, 6, 7, 8, 9, 10, 11, 12, 13] := by decide
theorem rg15 : Array.range 15 = #[0, 1, 2, 3, 4, 5, 6, 7, 8, 9, 10, 11, 12, 13, 14] := by decide
theorem rg16 : Array.range 16 = #[0, 1, 2, 3, 4, 5, 6, 7, 8, 9, 10, 11, 12, 13, 14, 15] := by decide
section
variable {P : Program} {ρ : Env} {w : World}
def RV (P : Program) (ρ : Env) (w : World) : ResultVar → Value → Prop
  | .tmp t, v => ρ t = v
  | .cell a t, v => ∃ ad, ρ a = .pointer (some ad) ∧ (loadVar t ad).run P w = .ok v w
inductive RVs (P : Program) (ρ : Env) (w : World) : List ResultVar → List Value → Prop
  | nil : RVs P ρ w [] []
  | cons {r : ResultVar} {v : Value} {rs : List ResultVar} {vs : List Value} (h : RV P ρ w r v) (k : RVs P ρ w rs vs) : RVs P ρ w (r :: rs) (v :: vs)
theorem RVs.tmp {t : Nat} {v : Value} {rs : List ResultVar} {vs : List Value} (h : ρ t = v) (k : RVs P ρ w rs vs) : RVs P ρ w (.tmp t :: rs) (v :: vs) := .cons h k
theorem RVs.agg {t s a : Nat} [ho : SZ P t s] {b o : Nat} {T : TypeId} {f : Nat × Nat} {old : Array Value} {cs : List Value} {rs : List ResultVar} {vs : List Value} (hx : ρ a = .pointer (some ⟨b, o, none⟩)) (hb : w.heap[b]? = some (.cells old T f)) (hfit : o + s ≤ old.size)
    (hc : (old.toList.drop o).take s = cs) (k : RVs P ρ w rs vs) : RVs P ρ w (.cell a t :: rs) (.agg cs.toArray :: vs) := by
  refine .cons ⟨_, hx, ?_⟩ k
  have h1 := ho.size
  cases hi : P.info? t with
  | none => simp [hi] at h1
  | some i =>
    simp [hi] at h1
    have hl : cs.length = s := by rw [← hc]; simp; omega
    have hc' := run_loadCells_list (P := P) (w := w) ⟨b, o, none⟩ cs (fun j v hj => by
      rw [show (⟨b, o, none⟩ : Addr).add j = ⟨b, o + j, none⟩ from by unfold Addr.add; split <;> simp_all]
      subst hc
      refine cell_of hb ?_
      rw [List.getElem?_take] at hj
      split at hj
      · rw [List.getElem?_drop] at hj; simpa using hj
      · simp at hj)
    rw [hl] at hc'
    unfold loadVar
    simp [isAgg_agg ho, sizeOf, typeInfo, hi, h1, hc']
theorem RVs.cell {t a : Nat} [ho : SC P t] {ad : Addr} {v : Value} {rs : List ResultVar} {vs : List Value} (hx : ρ a = .pointer (some ad)) (hv : w.cell? ad = some v) (k : RVs P ρ w rs vs) : RVs P ρ w (.cell a t :: rs) (v :: vs) := by
  refine .cons ⟨_, hx, ?_⟩ k
  unfold loadVar
  simp [isAgg_scalar ho, hv, go_sem]

def rvRun (tmps : Array Value) : ResultVar → Sem Value
  | .tmp t => pure (tmps.getD t undef)
  | .cell a t => do loadVar t (← asAddr (tmps.getD a undef))
theorem RVs.run {tmps : Array Value} (ht : (fun t => tmps.getD t undef) = ρ) : ∀ {rs : List ResultVar} {vs : List Value}, RVs P ρ w rs vs → (rs.mapM (rvRun tmps)).run P w = .ok vs w := by
  intro rs vs h
  induction h with
  | nil => simp
  | @cons r v rs vs h k ih =>
    have h1 : (rvRun tmps r).run P w = .ok v w := by
      subst ht
      cases r with
      | tmp t => simpa [RV, rvRun] using h
      | cell a t =>
        obtain ⟨ad, h2, h3⟩ := h
        simp only at h2
        simp only [rvRun, h2]
        simp [asAddr, h3]
    simp only [List.mapM_cons]
    simp [h1, ih]
theorem RVs.results {fn : Func} {rs : List ResultVar} {vs : List Value} {tmps : Array Value} (hr : fn.results = rs.toArray) (h : RVs P ρ w rs vs) (ht : (fun t => tmps.getD t undef) = ρ) :
    (results fn tmps).run P w = .ok (if h : vs.toArray.size = 1 then vs.toArray[0] else .tuple vs.toArray) w := by
  have := h.run ht
  have e : Go.results fn tmps = (do let vs ← fn.results.mapM (rvRun tmps); pure (if h : vs.size = 1 then vs[0] else .tuple vs)) := by
    unfold Go.results
    congr 1
  rw [e, hr, List.mapM_toArray]
  simp only [bind_map_left]
  simp [this]
end
section
variable {P : Program} {fn : Func} {ρ : Env} {w : World} {R : Ending → World → Prop}
theorem RetQ.many {rs : List ResultVar} {vs : List Value} (h : fn.results = rs.toArray) (hv : RVs P ρ w rs vs) (hl : vs.length ≠ 1) (hR : R (.returned (.tuple vs.toArray)) w) : RetQ P fn R .ret ρ w := by
  refine .of (v := .tuple vs.toArray) ?_ hR
  intro tmps ht
  have := hv.results h ht
  rw [dif_neg (by simpa using hl)] at this
  exact this
theorem RetQ.lone {r : ResultVar} {v : Value} (h : fn.results = #[r]) (hv : RVs P ρ w [r] [v]) (hR : R (.returned v) w) : RetQ P fn R .ret ρ w := by
  refine .of (v := v) ?_ hR
  intro tmps ht
  have := hv.results (rs := [r]) h ht
  simpa using this
end
section
variable {P : Program} {ρ : Env} {w : World} {K : Value → World → Prop} {d : Option Nat} {ty : TypeId} {pos : String} {aft : Array Edge} {g : Option (Nat × Bool)}
theorem Ox.neqSame {T T' : Nat} {x y : Operand} {a : ByteArray} (hx : ev ρ x = .string a) (hy : ev ρ y = .string a) (h : K (.bool false) w) : Ox P ⟨d, .binOp .neq T x y T', ty, pos, aft, g⟩ ρ w K :=
  Ox.neqS hx hy (by simpa using h)
theorem Ox.indexAddrN {T e size bytes : Nat} {z : Value} [hT : UT P T (.slice e)] [hE : EI P e z size bytes] {x ix : Operand} {b o o' n c : Nat} {k : IntKind} {i : Int} (hx : ev ρ x = .slice (some ⟨b, o, none⟩) n c) (hi : ev ρ ix = .int k i)
    (h0 : 0 ≤ i) (h1 : i < n) (ho : o + i.toNat * size = o') (h : K (.pointer (some ⟨b, o', none⟩)) w) : Ox P ⟨d, .indexAddr T x ix, ty, pos, aft, g⟩ ρ w K := by
  have e : (⟨b, o, none⟩ : Addr).add (i.toNat * size) = ⟨b, o', none⟩ := by subst ho; unfold Addr.add; split <;> simp_all
  exact Ox.indexAddr hx hi h0 h1 (by rw [e]; exact h)
end
section
variable {P : Program} {fn : Func} {ρ : Env} {w : World} {R : Ending → World → Prop}
theorem RetQB.many {rs : List ResultVar} {vs : List Value} (hR : R (.returned (.tuple vs.toArray)) w) (h : fn.results = rs.toArray := by exact rfl) (hv : RVs P ρ w rs vs := by (repeat (first | exact RVs.nil | ((with_reducible apply RVs.tmp); (conv => lhs; whnf)) | ((with_reducible apply RVs.agg); (exact rfl); (focus ((repeat (first | assumption | refine Fr.blk (by assumption) ?_ (by first | assumption | (simp; fail_if_success (focus skip)) | (simp; omega) | (refine notinP (by assumption) ?_ ?_ <;> first | assumption | omega | (simp; fail_if_success (focus skip)) | (simp; omega)) | (focus ((repeat' (first | assumption | omega | exact List.not_mem_nil | (refine notinN (by assumption) ?_) | (refine notinC ?_ ?_))); fail_if_success (focus skip)))))); fail_if_success (focus skip))); (simp only [List.size_toArray, List.length_cons, List.length_nil, List.length_map, List.length_set]; omega); (conv => lhs; simp)) | ((with_reducible apply RVs.cell); (exact rfl); (first | assumption | ((with_reducible apply cell_of); (focus ((repeat (first | assumption | refine Fr.blk (by assumption) ?_ (by first | assumption | (simp; fail_if_success (focus skip)) | (simp; omega) | (refine notinP (by assumption) ?_ ?_ <;> first | assumption | omega | (simp; fail_if_success (focus skip)) | (simp; omega)) | (focus ((repeat' (first | assumption | omega | exact List.not_mem_nil | (refine notinN (by assumption) ?_) | (refine notinC ?_ ?_))); fail_if_success (focus skip)))))); fail_if_success (focus skip))); (conv => lhs; simp only [List.getElem?_toArray, List.getElem?_cons_succ, List.getElem?_cons_zero])))))); fail_if_success (focus skip)) (hl : vs.length ≠ 1 := by simp; fail_if_success (focus skip)) : RetQ P fn R .ret ρ w := RetQ.many h hv hl hR
theorem RetQB.lone {r : ResultVar} {v : Value} (hR : R (.returned v) w) (h : fn.results = #[r] := by exact rfl) (hv : RVs P ρ w [r] [v] := by (repeat (first | exact RVs.nil | ((with_reducible apply RVs.tmp); (conv => lhs; whnf)) | ((with_reducible apply RVs.agg); (exact rfl); (focus ((repeat (first | assumption | refine Fr.blk (by assumption) ?_ (by first | assumption | (simp; fail_if_success (focus skip)) | (simp; omega) | (refine notinP (by assumption) ?_ ?_ <;> first | assumption | omega | (simp; fail_if_success (focus skip)) | (simp; omega)) | (focus ((repeat' (first | assumption | omega | exact List.not_mem_nil | (refine notinN (by assumption) ?_) | (refine notinC ?_ ?_))); fail_if_success (focus skip)))))); fail_if_success (focus skip))); (simp only [List.size_toArray, List.length_cons, List.length_nil, List.length_map, List.length_set]; omega); (conv => lhs; simp)) | ((with_reducible apply RVs.cell); (exact rfl); (first | assumption | ((with_reducible apply cell_of); (focus ((repeat (first | assumption | refine Fr.blk (by assumption) ?_ (by first | assumption | (simp; fail_if_success (focus skip)) | (simp; omega) | (refine notinP (by assumption) ?_ ?_ <;> first | assumption | omega | (simp; fail_if_success (focus skip)) | (simp; omega)) | (focus ((repeat' (first | assumption | omega | exact List.not_mem_nil | (refine notinN (by assumption) ?_) | (refine notinC ?_ ?_))); fail_if_success (focus skip)))))); fail_if_success (focus skip))); (conv => lhs; simp only [List.getElem?_toArray, List.getElem?_cons_succ, List.getElem?_cons_zero])))))); fail_if_success (focus skip)) : RetQ P fn R .ret ρ w := RetQ.lone h hv hR
end
section
variable {P : Program} {ρ : Env} {w : World} {K : Value → World → Prop} {d : Option Nat} {ty : TypeId} {pos : String} {aft : Array Edge} {g : Option (Nat × Bool)}
theorem OxB.buildE {t : Nat} {zero : List Value} {places : List (Nat × Nat)} [hS : ST P t zero places] {parts : List (Nat × Operand)} {vs : List (Nat × Value)} {cs : Array Value}
    (h : K (.agg cs) w) (he : EvL ρ parts vs := by (repeat (first | exact EvL.nil | ((with_reducible apply EvL.cons); (conv => lhs; whnf)))); fail_if_success (focus skip)) (hf : Instr.fill (places[·]?) zero.toArray vs = some cs := by (conv => lhs; simp [Instr.fill, Value.cells, Function.comp]); fail_if_success (focus skip)) : Ox P ⟨d, .build t ⟨parts⟩, ty, pos, aft, g⟩ ρ w K := Ox.buildE he hf h
theorem OxB.bsE {T e size bytes : Nat} {z : Value} [hT : UT P T (.slice e)] [hE : EI P e z size bytes] {ln : Nat} {parts : List (Nat × Operand)} {vs : List (Nat × Value)} {cs : Array Value}
    (h : ∀ b w', w'.heap[b]? = some (.cells cs e (0, 0)) → Fr w w' [] → b = w.heap.size → w'.heap.size = w.heap.size + 1 → K (.slice (some ⟨b, 0, none⟩) ln ln) w') (he : EvL ρ parts vs := by (repeat (first | exact EvL.nil | ((with_reducible apply EvL.cons); (conv => lhs; whnf)))); fail_if_success (focus skip)) (hsm : ln * size ≤ 16777216 := by decide)
    (hf : Instr.fill (fun i => some (i * size, size)) (Array.range (ln * size) |>.map (z.cells[· % z.cells.size]!)) vs = some cs := by (conv => lhs; simp [Instr.fill, Value.cells, Function.comp, rg2, rg3, rg4, rg5, rg6, rg7, rg8, rg9, rg10, rg11, rg12, rg13, rg14, rg15, rg16]); fail_if_success (focus skip)) : Ox P ⟨d, .buildSlice T ln ⟨parts⟩, ty, pos, aft, g⟩ ρ w K := Ox.buildSliceE he hsm hf h
end
end Go.Proofs.Ythpdpipcfhodoaa
