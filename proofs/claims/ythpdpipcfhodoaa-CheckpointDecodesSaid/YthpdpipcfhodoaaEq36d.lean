/- Checkpoints compared: the ways they may differ. Conditions: short slices. -/
import Derived.Test.YthpdpipcfhodoaaEq36
import Derived.Test.YthpdpipcfhodoaaCkp
import Derived.Laws.StructEq
import Derived.KernelRfl
namespace Go.Proofs.Ythpdpipcfhodoaa
open Go.RowKit
set_option linter.unusedSimpArgs false
set_option maxHeartbeats 4000000
set_option linter.unusedVariables false

theorem eqSpan (a b c d : Int) (w : World) : (Op.equalIn 10000 26 (.agg #[.int .i64 a, .int .i64 b]) (.agg #[.int .i64 c, .int .i64 d])).run Try.prog w = .ok (a == c && b == d) w := by
  have hS : Try.prog.underlying 26 = some (.struct (Try.prog.fieldsOf 26)) := by kernel_rfl
  have hp : Try.prog.stoodInHeld 26 = false := by kernel_rfl
  have hu : Try.prog.underlying 2 = some (.int .i64) := UT.out
  have hE : EI Try.prog 2 (.int .i64 0) 1 8 := inferInstance
  obtain ⟨i0, hi0, hz0, hz1, hz2⟩ := info_parts hE.out
  have hsz : ∀ w, (sizeOf 2).run Try.prog w = .ok 1 w := by intro w; simp [sizeOf, typeInfo, hi0, hz1, go_sem]
  have hag : ∀ w, (isAgg 2).run Try.prog w = .ok false w := fun w => isAgg_scalar inferInstance
  rw [show (10000 : Nat) = 9999 + 1 from rfl, run_equalIn_struct w 9999 26 _ _ hS hp]
  have hq : ∀ x y w, (Op.equalIn (9998 + 1) 2 (.int .i64 x) (.int .i64 y)).run Try.prog w = .ok (x == y) w := by intro x y w; exact run_equalIn_int w 9998 2 .i64 .i64 x y hu
  have hf : ((Try.prog.fieldsOf 26).toList.map fun f => (f.name == "_", f.type, f.offset)) = [(false, 2, 0), (false, 2, 1)] := by kernel_rfl
  generalize (Try.prog.fieldsOf 26).toList = fs at hf
  rcases fs with _ | ⟨f0, _ | ⟨f1, _ | ⟨f2, fs⟩⟩⟩ <;> simp at hf
  obtain ⟨⟨m0, t0, o0⟩, m1, t1, o1⟩ := hf
  by_cases h1 : a = c <;> by_cases h2 : b = d <;> simp [Op.eqFields, part, hag, hsz, hq, h1, h2, m0, m1, t0, t1, o0, o1, go_sem]
theorem Ox.eqlSpan {dd : Option Nat} {ty : TypeId} {pos : String} {aft : Array Edge} {g : Option (Nat × Bool)} {ρ : Env} {w : World} {K : Value → World → Prop} {T' : Nat} {x y : Operand} {a b c d : Int} {r : Bool}
    (hx : ev ρ x = .agg #[.int .i64 a, .int .i64 b]) (hy : ev ρ y = .agg #[.int .i64 c, .int .i64 d]) (hr : (a == c && b == d) = r) (h : K (.bool r) w) : Ox Try.prog ⟨dd, .binOp .eql 26 x y T', ty, pos, aft, g⟩ ρ w K := by
  have hgd : (eqGuard .eql 26 x y (.agg #[.int .i64 a, .int .i64 b]) (.agg #[.int .i64 c, .int .i64 d])).run Try.prog w = .ok () w := run_eqGuard_agg w .eql 26 x y _ _ (by kernel_rfl)
  have hq := eqSpan a b c d w
  subst hr
  by_cases h1 : a = c <;> by_cases h2 : b = d
  · simpa [Ox, execOp, hx, hy, hgd, run_eql_struct, hq, h1, h2, go_sem] using h
  · have e : (b == d) = false := by simpa using h2
    simp only [e, Bool.and_false] at h
    simpa [Ox, execOp, hx, hy, hgd, run_eql_struct, hq, h1, h2, go_sem] using h
  · have e : (a == c) = false := by simpa using h1
    simp only [e, Bool.false_and] at h
    simpa [Ox, execOp, hx, hy, hgd, run_eql_struct, hq, h1, h2, go_sem] using h
  · have e : (a == c) = false := by simpa using h1
    simp only [e, Bool.false_and] at h
    simpa [Ox, execOp, hx, hy, hgd, run_eql_struct, hq, h1, h2, go_sem] using h
section
variable {S T : List Nat} {a b : Cp} {vv vr va vl uv ur ua ul : Value}
theorem dcase {p q : Prop} [Decidable p] (h : p → q) : ¬ p ∨ (p ∧ q) := if hp : p then .inr ⟨hp, h hp⟩ else .inl hp
theorem cp_cases (a b : Cp) : a.ver ≠ b.ver ∨ (a.ver = b.ver ∧ (a.task ≠ b.task ∨ (a.task = b.task ∧ (a.reg ≠ b.reg ∨ (a.reg = b.reg ∧ (a.msg ≠ b.msg ∨ (a.msg = b.msg ∧ (a.vals ≠ b.vals ∨ (a.vals = b.vals ∧ (a.rem ≠ b.rem ∨ (a.rem = b.rem ∧ (a.add ≠ b.add ∨ (a.add = b.add ∧ (a.em ≠ b.em ∨ (a.em = b.em ∧ (a.ac ≠ b.ac ∨ (a.ac = b.ac ∧ (a.ou ≠ b.ou ∨ (a.ou = b.ou ∧ (a.dn ≠ b.dn ∨ (a.dn = b.dn ∧ (a.rels ≠ b.rels ∨ (a.rels = b.rels ∧ ((a.lo == b.lo && a.hi == b.hi) = false ∨ ((a.lo == b.lo && a.hi == b.hi) = true ∧ (a.ep ≠ b.ep ∨ a.ep = b.ep)))))))))))))))))))))))))) := by
  iterate 12 refine dcase (fun _ => ?_)
  cases h0 : (a.lo == b.lo && a.hi == b.hi)
  · exact .inl rfl
  · exact .inr ⟨rfl, (Decidable.em (a.ep = b.ep)).symm⟩
theorem cp_ext {a b : Cp} (h : a.ver = b.ver ∧ a.task = b.task ∧ a.reg = b.reg ∧ a.msg = b.msg ∧ a.vals = b.vals ∧ a.rem = b.rem ∧ a.add = b.add ∧ a.em = b.em ∧ a.ac = b.ac ∧ a.ou = b.ou ∧ a.dn = b.dn ∧ a.rels = b.rels ∧ (a.lo == b.lo && a.hi == b.hi) = true ∧ a.ep = b.ep) : a = b := by
  obtain ⟨h1, h2, h3, h4, h5, h6, h7, h8, h9, h10, h11, h12, h13, h14⟩ := h
  cases a; cases b
  simp only [Bool.and_eq_true, beq_iff_eq] at h13
  simp_all
end
end Go.Proofs.Ythpdpipcfhodoaa
