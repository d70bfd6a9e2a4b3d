/- Numbers as bytes, the low byte first: no program in sight. No condition. -/
import Derived.Test.YthpdpipcfhodoaaRow
import Derived.Test.YthpdpipcfhodoaaRet
import Derived.Test.YthpdpipcfhodoaaRowR
import Derived.Test.YthpdpipcfhodoaaRange
namespace Go.Proofs.Ythpdpipcfhodoaa
open Go.RowKit
set_option linter.unusedSimpArgs false
set_option maxHeartbeats 4000000
set_option linter.unusedVariables false

/-- The first bytes of a number, the low one first. -/
def numI (n : Int) : Nat → List Int
  | 0 => []
  | k + 1 => numI n k ++ [IntKind.u8.wrap (n / 256 ^ k)]
theorem numI_len (n : Int) : ∀ k, (numI n k).length = k
  | 0 => rfl
  | k + 1 => by rw [numI, List.length_append, numI_len n k]; rfl
theorem numI_byt (n : Int) : ∀ k, ∀ x ∈ numI n k, 0 ≤ x ∧ x < 256
  | 0, x, h => by simp [numI] at h
  | k + 1, x, h => by
    rw [numI, List.mem_append] at h
    rcases h with h | h
    · exact numI_byt n k x h
    · rw [List.mem_singleton.1 h, IntKind.wrap_u8]; omega
theorem ownBlock_rowT {w : World} {base e sz n : Nat} {v : Value} {xs : List Value} (h : w.ownsRow base e sz v n xs) {k : Nat} (hk : k ∈ v.ownBlock.toList) {c : Array Value} {T : TypeId} {f : Nat × Nat} (hb : w.heap[k]? = some (.cells c T f)) : T = e := by
  obtain ⟨cur, hc⟩ := ownBlock_ty h k hk
  rw [hc] at hb
  cases hb; rfl
/-- A new block of bytes. -/
theorem RdB.newN {w : World} {b : Nat} {l : List Int} {T : TypeId} {f : Nat × Nat} (hb : w.heap[b]? = some (.cells (bytesV l).toArray T f)) (hl : ∀ x ∈ l, 0 ≤ x ∧ x < 256) : RdB w [] (.slice (some ⟨b, 0, none⟩) l.length l.length) l :=
  ⟨_, _, rfl, Nat.le_refl _, hl, .inr ⟨b, 0, rfl, by simp, lt_of_block hb, fun j hj => cell_of hb (by simp [bytesV, List.getElem?_eq_getElem hj])⟩⟩
/-- The whole of an array as a slice. -/
theorem Ox.sliceArr {P : Program} {d : Option Nat} {ty : TypeId} {pos : String} {aft : Array Edge} {g : Option (Nat × Bool)} {ρ : Env} {w : World} {K : Value → World → Prop} {T e bytes size n : Nat} {z : Value} [hT : UT P T (.array n e)] [hE : EI P e z size bytes] {x : Operand} {b o : Nat} (hx : ev ρ x = .pointer (some ⟨b, o, none⟩))
    (h : K (.slice (some ⟨b, o, none⟩) n n) w) : Ox P ⟨d, .slice T x none none none, ty, pos, aft, g⟩ ρ w K := by
  obtain ⟨i0, hi0, hz0, hz1, hz2⟩ := info_parts hE.out
  have e0 : (if n = 0 then (⟨b, o, none⟩ : Addr) else (⟨b, o, none⟩ : Addr).add (0 * size)) = ⟨b, o, none⟩ := by split; rfl; rw [Nat.zero_mul, add_at]; rfl
  rw [← e0] at h
  simpa [Ox, execOp, hx, Instr.sliceAt, Instr.sliceBounds, Instr.sliceBound, Instr.sureAddr, asIntOf, run_underlying hT.out, sizeOf, typeInfo, hi0, hz1, go_sem] using h
theorem Ox.buildArr0 {P : Program} {d : Option Nat} {ty : TypeId} {pos : String} {aft : Array Edge} {g : Option (Nat × Bool)} {ρ : Env} {w : World} {K : Value → World → Prop} {T e bytes size n sT bT : Nat} {z zT : Value} [hT : UT P T (.array n e)] [hE : EI P e z size bytes] [hA : EI P T zT sT bT] {parts : Array (Nat × Operand)} {cs : Array Value}
    (hf : Instr.fill (fun i => some (i * size, size)) zT.cells (parts.toList.map fun p => (p.1, ev ρ p.2)) = some cs) (h : K (.agg cs) w) : Ox P ⟨d, .build T parts, ty, pos, aft, g⟩ ρ w K := by
  obtain ⟨i0, hi0, hz0, hz1, hz2⟩ := info_parts hE.out
  obtain ⟨i1, hi1, hy0, hy1, hy2⟩ := info_parts hA.out
  have hparts : (parts.map fun p => (p.1, ev ρ p.2)).toList = parts.toList.map fun p => (p.1, ev ρ p.2) := by simp
  have hrun : (Instr.build T (parts.map fun x => (x.1, ev ρ x.2))).run P w = .ok (.agg cs) w := by
    unfold Instr.build
    simp only [Sem.run_bind, run_zeroValue hi1 hy0, Result.andThen_ok, run_underlying hT.out, run_sizeOf hi0, hz1, hparts, hf, Sem.run_pure]
  simpa [Ox, execOp, hrun] using h
/-- An array made of its elements. -/
theorem Ox.buildArr {P : Program} {d : Option Nat} {ty : TypeId} {pos : String} {aft : Array Edge} {g : Option (Nat × Bool)} {ρ : Env} {w : World} {K : Value → World → Prop} {T e bytes size n sT bT : Nat} {z zT : Value} [hT : UT P T (.array n e)] [hE : EI P e z size bytes] [hA : EI P T zT sT bT] {parts : List (Nat × Operand)} {vs : List (Nat × Value)} {cs : Array Value}
    (he : EvL ρ parts vs) (hf : Instr.fill (fun i => some (i * size, size)) zT.cells vs = some cs) (h : K (.agg cs) w) : Ox P ⟨d, .build T ⟨parts⟩, ty, pos, aft, g⟩ ρ w K :=
  Ox.buildArr0 (by show Instr.fill _ _ (parts.map _) = _; rw [he.out]; exact hf) h
end Go.Proofs.Ythpdpipcfhodoaa
