/- What each operation of the code does, a rule each, over any program. No condition. -/
import Derived.Test.YthpdpipcfhodoaaEng
namespace Go.Proofs.Ythpdpipcfhodoaa
open Go.RowKit
section
variable {P : Program} {ρ : Env} {w : World} {K : Value → World → Prop} {d : Option Nat} {ty : TypeId} {pos : String} {aft : Array Edge} {g : Option (Nat × Bool)}

theorem Ox.move {x : Operand} {v : Value} (hx : ev ρ x = v) (h : K v w) : Ox P ⟨d, .move x, ty, pos, aft, g⟩ ρ w K := by simpa [Ox, execOp, hx] using h
theorem Ox.assign {x : Operand} {v : Value} (hx : ev ρ x = v) (h : K v w) : Ox P ⟨d, .assign x, ty, pos, aft, g⟩ ρ w K := by simpa [Ox, execOp, hx] using h
theorem Ox.pickT {c a b : Operand} {t : Bool} {v : Value} (hc : ev ρ c = .bool t) (ht : t = true) (ha : ev ρ a = v) (h : K v w) : Ox P ⟨d, .pick c a b, ty, pos, aft, g⟩ ρ w K := by
  simpa [Ox, execOp, hc, ht, ha, go_sem] using h
theorem Ox.pickF {c a b : Operand} {t : Bool} {v : Value} (hc : ev ρ c = .bool t) (ht : t = false) (hb : ev ρ b = v) (h : K v w) : Ox P ⟨d, .pick c a b, ty, pos, aft, g⟩ ρ w K := by
  simpa [Ox, execOp, hc, ht, hb, go_sem] using h
theorem Ox.nilCheck {x : Operand} {a : Addr} (hx : ev ρ x = .pointer (some a)) (h : K (.pointer (some a)) w) : Ox P ⟨d, .nilCheck x, ty, pos, aft, g⟩ ρ w K := by
  simpa [Ox, execOp, hx, go_sem] using h

def fieldOff (P : Program) (s f : Nat) : Option Nat :=
  match P.underlying s with
  | some (.struct fs) => match fs[f]? with
    | some fl => match P.info? fl.type with
      | some i => if i.size = 0 then none else some fl.offset
      | none => none
    | none => none
  | _ => none
class FO (P : Program) (s f : Nat) (off : outParam Nat) : Prop where out : fieldOff P s f = some off
theorem fieldOff_some {s f off : Nat} (h : fieldOff P s f = some off) : ∃ fs fl i, P.underlying s = some (.struct fs) ∧ fs[f]? = some fl ∧ P.info? fl.type = some i ∧ i.size ≠ 0 ∧ fl.offset = off := by
  unfold fieldOff at h
  split at h <;> try (simp at h; done)
  rename_i fs hu
  split at h <;> try (simp at h; done)
  rename_i fl hf
  split at h <;> try (simp at h; done)
  rename_i i hi
  split at h <;> simp at h
  exact ⟨fs, fl, i, hu, hf, hi, by assumption, h⟩
theorem Ox.fieldAddr0 {s f off : Nat} [ho : FO P s f off] {x : Operand} {b : Nat} (hx : ev ρ x = .pointer (some ⟨b, 0, none⟩)) (h : K (.pointer (some ⟨b, off, none⟩)) w) : Ox P ⟨d, .fieldAddr s x f, ty, pos, aft, g⟩ ρ w K := by
  obtain ⟨fs, fl, i, hu, hf, hi, hz, rfl⟩ := fieldOff_some ho.out
  have e : (⟨b, 0, none⟩ : Addr).add fl.offset = ⟨b, fl.offset, none⟩ := by unfold Addr.add; split <;> simp_all
  rw [← e] at h
  simpa [Ox, execOp, hx, go_sem, Instr.fieldAt, run_underlying hu, hf, fieldPlace, sizeOf, typeInfo, hi, hz, Instr.sureAddr] using h
theorem Ox.fieldAddrN {s f off o o' : Nat} [ho : FO P s f off] {x : Operand} {b : Nat} (hx : ev ρ x = .pointer (some ⟨b, o, none⟩)) (he : o + off = o') (h : K (.pointer (some ⟨b, o', none⟩)) w) : Ox P ⟨d, .fieldAddr s x f, ty, pos, aft, g⟩ ρ w K := by
  obtain ⟨fs, fl, i, hu, hf, hi, hz, rfl⟩ := fieldOff_some ho.out
  subst he
  have e : (⟨b, o, none⟩ : Addr).add fl.offset = ⟨b, o + fl.offset, none⟩ := by unfold Addr.add; split <;> simp_all
  rw [← e] at h
  simpa [Ox, execOp, hx, go_sem, Instr.fieldAt, run_underlying hu, hf, fieldPlace, sizeOf, typeInfo, hi, hz, Instr.sureAddr] using h
theorem Ox.fieldAddr {s f off : Nat} [ho : FO P s f off] {x : Operand} {a : Addr} (hx : ev ρ x = .pointer (some a)) (h : K (.pointer (some (a.add off))) w) : Ox P ⟨d, .fieldAddr s x f, ty, pos, aft, g⟩ ρ w K := by
  obtain ⟨fs, fl, i, hu, hf, hi, hz, rfl⟩ := fieldOff_some ho.out
  simpa [Ox, execOp, hx, go_sem, Instr.fieldAt, run_underlying hu, hf, fieldPlace, sizeOf, typeInfo, hi, hz, Instr.sureAddr] using h

class UT (P : Program) (t : Nat) (dd : outParam TypeDesc) : Prop where out : P.underlying t = some dd
def scalarD : TypeDesc → Bool | .struct _ | .array _ _ => false | _ => true
class SC (P : Program) (t : Nat) : Prop where out : (P.underlying t).map scalarD = some true
theorem isAgg_scalar {t : Nat} (h : SC P t) : (isAgg t).run P w = .ok false w := by
  have := h.out
  cases hu : P.underlying t with
  | none => simp [hu] at this
  | some dd =>
    simp [hu] at this
    cases dd <;> simp_all [isAgg, run_underlying hu, scalarD]
theorem Ox.load {t : Nat} [ho : SC P t] {x : Operand} {a : Addr} {v : Value} (hx : ev ρ x = .pointer (some a)) (hv : w.cell? a = some v) (h : K v w) : Ox P ⟨d, .load t x, ty, pos, aft, g⟩ ρ w K := by
  simpa [Ox, execOp, hx, Instr.loadAt, Instr.sureAddr, loadVar, isAgg_scalar ho, hv, go_sem] using h
end
section
variable {P : Program} {ρ : Env} {w : World} {K : Value → World → Prop} {d : Option Nat} {ty : TypeId} {pos : String} {aft : Array Edge} {g : Option (Nat × Bool)}

theorem run_store1 {a : Addr} {v old : Value} (hc : w.cell? a = some old) (hf : w.frozen? a = false) (hv : v.cells = #[v]) (ha : ∀ cs, v ≠ .agg cs) (ht : ∀ cs, v ≠ .tuple cs) : (store a v).run P w = .ok () (w.setCell a v) := by
  cases v <;> first | exact absurd rfl (ha _) | exact absurd rfl (ht _) | simp [store, Sem.run, hc, hf]

def plainV : Value → Bool | .agg _ | .tuple _ => false | _ => true
class S1 (P : Program) (t : Nat) : Prop where out : (P.info? t).map (·.size) = some 1
theorem Ox.store {t : Nat} [ho : S1 P t] {x y : Operand} {a : Addr} {old : Value} (hx : ev ρ x = .pointer (some a)) (hc : w.cell? a = some old) (hf : w.frozen? a = false) (hv : plainV (ev ρ y) = true)
    (h : K undef (w.setCell a (ev ρ y))) : Ox P ⟨d, .store t x y, ty, pos, aft, g⟩ ρ w K := by
  have h1 := ho.out
  cases hi : P.info? t with
  | none => simp [hi] at h1
  | some i =>
    simp [hi] at h1
    obtain ⟨v, hvv⟩ : ∃ v, ev ρ y = v := ⟨_, rfl⟩
    rw [hvv] at hv h
    have hcs : v.cells = #[v] := by cases v <;> first | rfl | simp [plainV] at hv
    have hst : (Go.store a v).run P w = .ok () (w.setCell a v) := by
      cases v <;> first | (simp [plainV] at hv; done) | simp [Go.store, Sem.run, hc, hf]
    have hrun : (storeVar t a v).run P w = .ok () (w.setCell a v) := by
      unfold storeVar
      rw [hcs]
      simp [sizeOf, typeInfo, hi, h1, storeCells, Addr.add, hst]
    simpa [Ox, execOp, hx, hvv, Instr.storeAt, Instr.sureAddr, hrun] using h

theorem Ox.not {T : Nat} {x : Operand} {b : Bool} (hx : ev ρ x = .bool b) (h : K (.bool (!b)) w) : Ox P ⟨d, .unOp .not T x, ty, pos, aft, g⟩ ρ w K := by
  simpa [Ox, execOp, hx, go_sem, Op.unary] using h

theorem bnotT {b : Bool} (h : b = false) : (!b) = true := by rw [h]; rfl
theorem bnotF {b : Bool} (h : b = true) : (!b) = false := by rw [h]; rfl
theorem wrap_in {k : IntKind} {n : Int} (h : k = .i64) (h' : -9223372036854775808 ≤ n ∧ n ≤ 9223372036854775807) : k.wrap n = n := by
  subst h
  rw [IntKind.wrap_i64]; omega
-- integers
theorem Ox.add {T T' : Nat} {x y : Operand} {k : IntKind} {a b : Int} (hx : ev ρ x = .int k a) (hy : ev ρ y = .int k b) (h : K (.int k (k.wrap (a + b))) w) : Ox P ⟨d, .binOp .add T x y T', ty, pos, aft, g⟩ ρ w K := by
  simpa [Ox, execOp, hx, hy, go_sem, eqGuard, binOp, Op.intArith] using h
theorem Ox.add' {T T' : Nat} {x y : Operand} {a b : Int} (hx : ev ρ x = .int .i64 a) (hy : ev ρ y = .int .i64 b) (hr : -9223372036854775808 ≤ a + b ∧ a + b ≤ 9223372036854775807) (h : K (.int .i64 (a + b)) w) : Ox P ⟨d, .binOp .add T x y T', ty, pos, aft, g⟩ ρ w K :=
  Ox.add hx hy (by rw [wrap_in rfl hr]; exact h)
theorem Ox.sub {T T' : Nat} {x y : Operand} {k : IntKind} {a b : Int} (hx : ev ρ x = .int k a) (hy : ev ρ y = .int k b) (h : K (.int k (k.wrap (a - b))) w) : Ox P ⟨d, .binOp .sub T x y T', ty, pos, aft, g⟩ ρ w K := by
  simpa [Ox, execOp, hx, hy, go_sem, eqGuard, binOp, Op.intArith] using h
theorem Ox.sub' {T T' : Nat} {x y : Operand} {a b : Int} (hx : ev ρ x = .int .i64 a) (hy : ev ρ y = .int .i64 b) (hr : -9223372036854775808 ≤ a - b ∧ a - b ≤ 9223372036854775807) (h : K (.int .i64 (a - b)) w) : Ox P ⟨d, .binOp .sub T x y T', ty, pos, aft, g⟩ ρ w K :=
  Ox.sub hx hy (by rw [wrap_in rfl hr]; exact h)
theorem Ox.mul {T T' : Nat} {x y : Operand} {k : IntKind} {a b : Int} (hx : ev ρ x = .int k a) (hy : ev ρ y = .int k b) (h : K (.int k (k.wrap (a * b))) w) : Ox P ⟨d, .binOp .mul T x y T', ty, pos, aft, g⟩ ρ w K := by
  simpa [Ox, execOp, hx, hy, go_sem, eqGuard, binOp, Op.intArith] using h
theorem Ox.mul' {T T' : Nat} {x y : Operand} {a b : Int} (hx : ev ρ x = .int .i64 a) (hy : ev ρ y = .int .i64 b) (hr : -9223372036854775808 ≤ a * b ∧ a * b ≤ 9223372036854775807) (h : K (.int .i64 (a * b)) w) : Ox P ⟨d, .binOp .mul T x y T', ty, pos, aft, g⟩ ρ w K :=
  Ox.mul hx hy (by rw [wrap_in rfl hr]; exact h)
theorem Ox.quo {T T' : Nat} {x y : Operand} {k : IntKind} {a b : Int} (hx : ev ρ x = .int k a) (hy : ev ρ y = .int k b) (hb : b ≠ 0) (h : K (.int k (k.wrap (a.tdiv b))) w) : Ox P ⟨d, .binOp .quo T x y T', ty, pos, aft, g⟩ ρ w K := by
  simpa [Ox, execOp, hx, hy, go_sem, eqGuard, binOp, Op.intDiv, hb] using h
theorem Ox.rem {T T' : Nat} {x y : Operand} {k : IntKind} {a b : Int} (hx : ev ρ x = .int k a) (hy : ev ρ y = .int k b) (hb : b ≠ 0) (h : K (.int k (a.tmod b)) w) : Ox P ⟨d, .binOp .rem T x y T', ty, pos, aft, g⟩ ρ w K := by
  simpa [Ox, execOp, hx, hy, go_sem, eqGuard, binOp, Op.intDiv, hb] using h
theorem Ox.lss {T T' : Nat} {x y : Operand} {k : IntKind} {a b : Int} (hx : ev ρ x = .int k a) (hy : ev ρ y = .int k b) (h : K (.bool (decide (a < b))) w) : Ox P ⟨d, .binOp .lss T x y T', ty, pos, aft, g⟩ ρ w K := by
  simpa [Ox, execOp, hx, hy, go_sem, eqGuard, binOp, Op.intCmp] using h
theorem Ox.leq {T T' : Nat} {x y : Operand} {k : IntKind} {a b : Int} (hx : ev ρ x = .int k a) (hy : ev ρ y = .int k b) (h : K (.bool (decide (a ≤ b))) w) : Ox P ⟨d, .binOp .leq T x y T', ty, pos, aft, g⟩ ρ w K := by
  simpa [Ox, execOp, hx, hy, go_sem, eqGuard, binOp, Op.intCmp] using h
theorem Ox.gtr {T T' : Nat} {x y : Operand} {k : IntKind} {a b : Int} (hx : ev ρ x = .int k a) (hy : ev ρ y = .int k b) (h : K (.bool (decide (b < a))) w) : Ox P ⟨d, .binOp .gtr T x y T', ty, pos, aft, g⟩ ρ w K := by
  simpa [Ox, execOp, hx, hy, go_sem, eqGuard, binOp, Op.intCmp] using h
theorem Ox.geq {T T' : Nat} {x y : Operand} {k : IntKind} {a b : Int} (hx : ev ρ x = .int k a) (hy : ev ρ y = .int k b) (h : K (.bool (decide (b ≤ a))) w) : Ox P ⟨d, .binOp .geq T x y T', ty, pos, aft, g⟩ ρ w K := by
  simpa [Ox, execOp, hx, hy, go_sem, eqGuard, binOp, Op.intCmp] using h
theorem Ox.eql {T T' : Nat} {x y : Operand} {k : IntKind} {a b : Int} (hx : ev ρ x = .int k a) (hy : ev ρ y = .int k b) (h : K (.bool (decide (a = b))) w) : Ox P ⟨d, .binOp .eql T x y T', ty, pos, aft, g⟩ ρ w K := by
  have e : (a == b) = decide (a = b) := by rw [Bool.eq_iff_iff]; simp
  simpa [Ox, execOp, hx, hy, go_sem, eqGuard, binOp, Op.intCmp, e] using h
theorem Ox.neq {T T' : Nat} {x y : Operand} {k : IntKind} {a b : Int} (hx : ev ρ x = .int k a) (hy : ev ρ y = .int k b) (h : K (.bool (decide (a ≠ b))) w) : Ox P ⟨d, .binOp .neq T x y T', ty, pos, aft, g⟩ ρ w K := by
  have e : (a != b) = decide (a ≠ b) := by rw [Bool.eq_iff_iff]; simp
  simpa [Ox, execOp, hx, hy, go_sem, eqGuard, binOp, Op.intCmp, e] using h
theorem Ox.or {T T' : Nat} {x y : Operand} {k : IntKind} {a b : Int} (hx : ev ρ x = .int k a) (hy : ev ρ y = .int k b) (h : K (.int k (bits .or k a b)) w) : Ox P ⟨d, .binOp .or T x y T', ty, pos, aft, g⟩ ρ w K := by
  simpa [Ox, execOp, hx, hy, go_sem, eqGuard, binOp] using h

theorem Ox.and {T T' : Nat} {x y : Operand} {k : IntKind} {a b : Int} (hx : ev ρ x = .int k a) (hy : ev ρ y = .int k b) (h : K (.int k (bits .and k a b)) w) : Ox P ⟨d, .binOp .and T x y T', ty, pos, aft, g⟩ ρ w K := by
  simpa [Ox, execOp, hx, hy, go_sem, eqGuard, binOp] using h
theorem Ox.eqlB {T T' : Nat} [hT : UT P T .bool] {x y : Operand} {a b : Bool} (hx : ev ρ x = .bool a) (hy : ev ρ y = .bool b) (h : K (.bool (a == b)) w) : Ox P ⟨d, .binOp .eql T x y T', ty, pos, aft, g⟩ ρ w K := by
  have hr := run_eql_bool (P := P) w T a b hT.out
  have hg : (eqGuard .eql T x y (.bool a) (.bool b)).run P w = .ok () w := by simp [eqGuard]
  simpa [Ox, execOp, hx, hy, hr, hg] using h
theorem Ox.neqB {T T' : Nat} [hT : UT P T .bool] {x y : Operand} {a b : Bool} (hx : ev ρ x = .bool a) (hy : ev ρ y = .bool b) (h : K (.bool (a != b)) w) : Ox P ⟨d, .binOp .neq T x y T', ty, pos, aft, g⟩ ρ w K := by
  have hr : (binOp .neq T (.bool a) (.bool b)).run P w = .ok (.bool (a != b)) w := by
    simp only [binOp]
    simp [run_equal_bool w T a b hT.out, bne]
  have hg : (eqGuard .neq T x y (.bool a) (.bool b)).run P w = .ok () w := by simp [eqGuard]
  simpa [Ox, execOp, hx, hy, hr, hg] using h

theorem Ox.conv {s t : Nat} {k k' : IntKind} [hs : UT P s (.int k)] [ht : UT P t (.int k')] {x : Operand} {a : Int} (hx : ev ρ x = .int k a) (h : K (.int k' (k'.wrap a)) w) : Ox P ⟨d, .convert s t x, ty, pos, aft, g⟩ ρ w K := by
  simpa [Ox, execOp, hx, go_sem, convert, run_underlying hs.out, run_underlying ht.out, Conv.intToInt] using h

theorem Ox.convI {s t : Nat} {k : IntKind} [hs : UT P s (.int k)] [ht : UT P t (.int .i64)] {x : Operand} {a : Int} (hx : ev ρ x = .int k a) (h0 : -9223372036854775808 ≤ a ∧ a ≤ 9223372036854775807) (h : K (.int .i64 a) w) : Ox P ⟨d, .convert s t x, ty, pos, aft, g⟩ ρ w K :=
  Ox.conv hx (by rw [show IntKind.i64.wrap a = a by rw [IntKind.wrap_i64]; omega]; exact h)
theorem Ox.call {f : Nat} {args : Array Operand} {ts : Array TypeId} {fn : Func} {c : Code} (hf : P.funcs[f]? = some fn) (hb : fn.body = some c) (hn : (fn.name == "runtime.NumGoroutine") = false)
    (h : Calls P f (args.map (ev ρ)) w fun e w' => ∃ v, e = .returned v ∧ K v w') : Ox P ⟨d, .call { callee := .value (.func f), args := args, argTypes := ts }, ty, pos, aft, g⟩ ρ w K := by
  have hn' : fn.name ≠ "runtime.NumGoroutine" := by simpa using hn
  simpa [Ox, execOp, resolve, ev, Deferred.ofValue, invoke, callFunc, go_sem, hf, hb, hn'] using h
end
section
variable {P : Program} {ρ : Env} {w : World} {K : Value → World → Prop} {d : Option Nat} {ty : TypeId} {pos : String} {aft : Array Edge} {g : Option (Nat × Bool)}

class EI (P : Program) (e : Nat) (z : outParam Value) (size bytes : outParam Nat) : Prop where out : (P.info? e).map (fun i => (i.zero, i.size, i.bytes)) = some (some z, size, bytes)

/-- A slice's value that reads as these cells. -/
def Rd (w : World) (v : Value) (n : Nat) (cs : List Value) : Prop := ∃ a c, v = .slice a n c ∧ n ≤ c ∧ ∀ j u, cs[j]? = some u → ∃ ad, a = some ad ∧ w.cell? (ad.add j) = some u

theorem Ox.len {T e : Nat} [hT : UT P T (.slice e)] {x : Operand} {a : Option Addr} {n c : Nat} (hx : ev ρ x = .slice a n c) (h : K (.int .i64 n) w) :
    Ox P ⟨d, .call { callee := .builtin .len, args := #[x], argTypes := #[T] }, ty, pos, aft, g⟩ ρ w K := by
  simpa [Ox, execOp, resolve, hx, invoke, builtin, Builtin.len_, run_underlying hT.out, go_sem] using h
theorem Ox.lenS {T : Nat} [hT : UT P T .string] {x : Operand} {s : ByteArray} (hx : ev ρ x = .string s) (h : K (.int .i64 s.size) w) :
    Ox P ⟨d, .call { callee := .builtin .len, args := #[x], argTypes := #[T] }, ty, pos, aft, g⟩ ρ w K := by
  simpa [Ox, execOp, resolve, hx, invoke, builtin, Builtin.len_, run_underlying hT.out, go_sem] using h
theorem Ox.min {ts : Array TypeId} {x y : Operand} {k : IntKind} {a b : Int} (hx : ev ρ x = .int k a) (hy : ev ρ y = .int k b) (h : K (.int k (if b < a then b else a)) w) :
    Ox P ⟨d, .call { callee := .builtin .min, args := #[x, y], argTypes := ts }, ty, pos, aft, g⟩ ρ w K := by
  simpa [Ox, execOp, resolve, hx, hy, invoke, builtin, Builtin.min_, Builtin.min2, go_sem] using h
theorem Ox.max {ts : Array TypeId} {x y : Operand} {k : IntKind} {a b : Int} (hx : ev ρ x = .int k a) (hy : ev ρ y = .int k b) (h : K (.int k (if a < b then b else a)) w) :
    Ox P ⟨d, .call { callee := .builtin .max, args := #[x, y], argTypes := ts }, ty, pos, aft, g⟩ ρ w K := by
  simpa [Ox, execOp, resolve, hx, hy, invoke, builtin, Builtin.max_, Builtin.max2, go_sem] using h

theorem Ox.minL {ts : Array TypeId} {x y : Operand} {k : IntKind} {a b : Int} (hx : ev ρ x = .int k a) (hy : ev ρ y = .int k b) (hab : a ≤ b) (h : K (.int k a) w) :
    Ox P ⟨d, .call { callee := .builtin .min, args := #[x, y], argTypes := ts }, ty, pos, aft, g⟩ ρ w K := Ox.min hx hy (by rw [if_neg (by omega)]; exact h)
theorem Ox.minR {ts : Array TypeId} {x y : Operand} {k : IntKind} {a b : Int} (hx : ev ρ x = .int k a) (hy : ev ρ y = .int k b) (hab : b ≤ a) (h : K (.int k b) w) :
    Ox P ⟨d, .call { callee := .builtin .min, args := #[x, y], argTypes := ts }, ty, pos, aft, g⟩ ρ w K := Ox.min hx hy (by
      by_cases e : b < a
      · rw [if_pos e]; exact h
      · rw [if_neg e, show a = b by omega]; exact h)
theorem Ox.maxL {ts : Array TypeId} {x y : Operand} {k : IntKind} {a b : Int} (hx : ev ρ x = .int k a) (hy : ev ρ y = .int k b) (hab : b ≤ a) (h : K (.int k a) w) :
    Ox P ⟨d, .call { callee := .builtin .max, args := #[x, y], argTypes := ts }, ty, pos, aft, g⟩ ρ w K := Ox.max hx hy (by rw [if_neg (by omega)]; exact h)
theorem Ox.maxR {ts : Array TypeId} {x y : Operand} {k : IntKind} {a b : Int} (hx : ev ρ x = .int k a) (hy : ev ρ y = .int k b) (hab : a ≤ b) (h : K (.int k b) w) :
    Ox P ⟨d, .call { callee := .builtin .max, args := #[x, y], argTypes := ts }, ty, pos, aft, g⟩ ρ w K := Ox.max hx hy (by
      by_cases e : a < b
      · rw [if_pos e]; exact h
      · rw [if_neg e, show a = b by omega]; exact h)
theorem Ox.eqlBV {T T' : Nat} [hT : UT P T .bool] {x y : Operand} {a b c : Bool} (hx : ev ρ x = .bool a) (hy : ev ρ y = .bool b) (hc : (a == b) = c) (h : K (.bool c) w) : Ox P ⟨d, .binOp .eql T x y T', ty, pos, aft, g⟩ ρ w K :=
  Ox.eqlB hx hy (hc ▸ h)
theorem Ox.neqBV {T T' : Nat} [hT : UT P T .bool] {x y : Operand} {a b c : Bool} (hx : ev ρ x = .bool a) (hy : ev ρ y = .bool b) (hc : (a != b) = c) (h : K (.bool c) w) : Ox P ⟨d, .binOp .neq T x y T', ty, pos, aft, g⟩ ρ w K :=
  Ox.neqB hx hy (hc ▸ h)
theorem Ox.indexAddr {T e size bytes : Nat} {z : Value} [hT : UT P T (.slice e)] [hE : EI P e z size bytes] {x ix : Operand} {a : Addr} {n c : Nat} {k : IntKind} {i : Int} (hx : ev ρ x = .slice (some a) n c) (hi : ev ρ ix = .int k i)
    (h0 : 0 ≤ i) (h1 : i < n) (h : K (.pointer (some (a.add (i.toNat * size)))) w) : Ox P ⟨d, .indexAddr T x ix, ty, pos, aft, g⟩ ρ w K := by
  obtain ⟨i0, hi0, hz0, hz1, hz2⟩ := info_parts hE.out
  simpa [Ox, execOp, hx, hi, Instr.indexAt, run_underlying hT.out, h0, h1, sizeOf, typeInfo, hi0, hz1, asIntOf, go_sem] using h

theorem Ox.indexS {T : Nat} [hT : UT P T .string] {x ix : Operand} {s : ByteArray} {k : IntKind} {i : Int} (hx : ev ρ x = .string s) (hi : ev ρ ix = .int k i)
    (h0 : 0 ≤ i) (h1 : i < s.size) (h : K (.int .u8 (s.data.toList.getD i.toNat 0).toNat) w) : Ox P ⟨d, .index T x ix, ty, pos, aft, g⟩ ρ w K := by
  have hlt : i.toNat < s.size := by omega
  have hg : s[i.toNat]? = some s[i.toNat] := by simp [hlt]
  have hv : s.data.toList.getD i.toNat 0 = s[i.toNat] := by
    rw [List.getD_eq_getElem?_getD, List.getElem?_eq_getElem (by simpa using hlt)]; rfl
  rw [hv] at h
  simpa [Ox, execOp, hx, hi, Instr.index, run_underlying hT.out, h0, hg, asIntOf, go_sem] using h

def cutA (a : Option Addr) (l m s : Nat) : Option Addr := if m = l then a else a.map (·.add (l * s))
section
variable {T e size bytes : Nat} {z : Value} [hT : UT P T (.slice e)] [hE : EI P e z size bytes] {x lo hi : Operand} {a : Option Addr} {n c : Nat} {k k' : IntKind} {l h : Int}
include hT hE
theorem Ox.sliceLH (hx : ev ρ x = .slice a n c) (hl : ev ρ lo = .int k l) (hh : ev ρ hi = .int k' h) (h0 : 0 ≤ l) (h1 : l ≤ h) (h2 : h ≤ c)
    (hk : K (.slice (cutA a l.toNat c size) (h.toNat - l.toNat) (c - l.toNat)) w) : Ox P ⟨d, .slice T x (some lo) (some hi) none, ty, pos, aft, g⟩ ρ w K := by
  obtain ⟨i0, hi0, hz0, hz1, hz2⟩ := info_parts hE.out
  have h3 : 0 ≤ h := by omega
  simpa [Ox, execOp, hx, hl, hh, Instr.sliceAt, Instr.slice, Instr.sliceBounds, Instr.sliceBound, asIntOf, run_underlying hT.out, h0, h1, h2, h3, Int.toNat_of_nonneg h3, sizeOf, typeInfo, hi0, hz1, cutA, go_sem] using hk
theorem Ox.sliceL (hx : ev ρ x = .slice a n c) (hl : ev ρ lo = .int k l) (h0 : 0 ≤ l) (h1 : l ≤ n)
    (hk : K (.slice (cutA a l.toNat c size) (n - l.toNat) (c - l.toNat)) w) : Ox P ⟨d, .slice T x (some lo) none none, ty, pos, aft, g⟩ ρ w K := by
  obtain ⟨i0, hi0, hz0, hz1, hz2⟩ := info_parts hE.out
  simpa [Ox, execOp, hx, hl, Instr.sliceAt, Instr.slice, Instr.sliceBounds, Instr.sliceBound, asIntOf, run_underlying hT.out, h0, h1, sizeOf, typeInfo, hi0, hz1, cutA, go_sem] using hk
theorem Ox.sliceH (hx : ev ρ x = .slice a n c) (hh : ev ρ hi = .int k' h) (h0 : 0 ≤ h) (h2 : h ≤ c)
    (hk : K (.slice (cutA a 0 c size) h.toNat c) w) : Ox P ⟨d, .slice T x none (some hi) none, ty, pos, aft, g⟩ ρ w K := by
  obtain ⟨i0, hi0, hz0, hz1, hz2⟩ := info_parts hE.out
  simpa [Ox, execOp, hx, hh, Instr.sliceAt, Instr.slice, Instr.sliceBounds, Instr.sliceBound, asIntOf, run_underlying hT.out, h0, h2, sizeOf, typeInfo, hi0, hz1, cutA, go_sem] using hk

theorem Ox.make {ln cp : Operand} {kl kc : IntKind} {l c : Int} (hl : ev ρ ln = .int kl l) (hc : ev ρ cp = .int kc c) (h0 : 0 ≤ l) (hlc : l ≤ c) (hb : (bytes : Int) * c ≤ 281474976710656) (h63 : c ≤ 9223372036854775807)
    (hk : K (.slice (some ⟨w.heap.size, 0, none⟩) l.toNat c.toNat) (w.alloc (.cells (madeCells z.cells (c.toNat * size)) e))) : Ox P ⟨d, .makeSlice T ln cp, ty, pos, aft, g⟩ ρ w K := by
  obtain ⟨i0, hi0, hz0, hz1, hz2⟩ := info_parts hE.out
  have := run_make (P := P) w T e i0 z hT.out hi0 hz0 kl kc l c h0 hlc (by rw [hz2]; exact hb) h63
  rw [hz1] at this
  simpa [Ox, execOp, hl, hc, this] using hk

theorem Ox.appendOwn {s y : Operand} {v : Value} {base m : Nat} {xs news : List Value} (hs : ev ρ s = v) (hzs : z.cells.size = size) (hsz : 0 < size) (hown : w.ownsRow base e size v n xs)
    (hy : Rd w (ev ρ y) m news) (hl : news.length = m * size) (h1 : ∀ u ∈ news, u.oneCell' = true) (h63 : n + m ≤ maxLen) (hbytes : (n + m) * bytes ≤ 140737488355328) (hbase : base ≤ w.heap.size)
    (hk : ∀ v' w', w'.ownsRow base e size v' (n + m) (xs ++ news) → w.grownBy w' v.ownBlock → (v' = .slice none 0 0 ↔ v = .slice none 0 0 ∧ m = 0) → K v' w') :
    Ox P ⟨d, .call { callee := .builtin .append, args := #[s, y], argTypes := #[T, T] }, ty, pos, aft, g⟩ ρ w K := by
  obtain ⟨i0, hi0, hz0, hz1, hz2⟩ := info_parts hE.out
  obtain ⟨a', c', hv, hmc, hcell⟩ := hy
  cases a' with
  | none =>
    have hn : news = [] := by
      cases news with
      | nil => rfl
      | cons u us => obtain ⟨ad, h, _⟩ := hcell 0 u rfl; simp at h
    have hm : m = 0 := by
      rw [hn] at hl
      rcases Nat.mul_eq_zero.1 hl.symm with h | h
      · exact h
      · omega
    subst hm hn
    have key : (Builtin.append_ #[T, T] ty #[v, .slice none 0 c']).run P w = .ok v w := by
      rcases hown.2 with ⟨rfl, rfl⟩ | ⟨g, cap, cur, rfl, _, _, hnc, _⟩
      · simp [Builtin.append_, run_underlying hT.out, sizeOf, typeInfo, hi0, Builtin.lenOf, Builtin.firstCells]
      · simp [Builtin.append_, run_underlying hT.out, sizeOf, typeInfo, hi0, Builtin.lenOf, Builtin.firstCells, hnc, storeCells]
    have := hk v w (by simpa using hown) ⟨rfl, rfl, rfl, Nat.le_refl _, fun _ _ _ => rfl⟩ (by simp)
    simpa [Ox, execOp, resolve, hs, hv, invoke, builtin, key] using this
  | some ad =>
    have hcell' : ∀ j u, news[j]? = some u → w.cell? (ad.add j) = some u := fun j u hj => by
      obtain ⟨ad', h, h2⟩ := hcell j u hj
      cases h; exact h2
    obtain ⟨v', w', hr, ho, hg, hnil⟩ := run_append_own (P := P) w base T ty e i0 z size bytes hT.out hi0 hz0 hz1 hz2 hzs hsz v n xs hown ad m c' news hl hcell' h1 h63 hbytes hbase
    have := hk v' w' ho hg hnil
    simpa [Ox, execOp, resolve, hs, hv, invoke, builtin, hr] using this

def bstr (l : List Int) : ByteArray := ⟨(l.map fun n => UInt8.ofNat n.toNat).toArray⟩
end
end
section
variable {P : Program} {ρ : Env} {w : World} {K : Value → World → Prop} {d : Option Nat} {ty : TypeId} {pos : String} {aft : Array Edge} {g : Option (Nat × Bool)}

theorem bstr_foldl (ns : List Int) : ∀ s : ByteArray, ns.foldl (fun r n => r.push (UInt8.ofNat n.toNat)) s = ⟨s.data ++ (ns.map fun n => UInt8.ofNat n.toNat).toArray⟩ := by
  induction ns with
  | nil => intro s; simp
  | cons n ns ih =>
    intro s
    rw [List.foldl_cons, ih]
    simp [ByteArray.push]
theorem bstr_toList (l : List Int) : (bstr l).toList = l.map fun n => UInt8.ofNat n.toNat := by
  unfold bstr; exact ByteArray.toList_mk _
theorem bytes_inj' {l l' : List Int} (h : ∀ x ∈ l, 0 ≤ x ∧ x < 256) (h' : ∀ x ∈ l', 0 ≤ x ∧ x < 256) (e : (l.map fun n => UInt8.ofNat n.toNat) = l'.map fun n => UInt8.ofNat n.toNat) : l = l' := by
  induction l generalizing l' with
  | nil => cases l' with
    | nil => rfl
    | cons y ys => simp at e
  | cons x xs ih => cases l' with
    | nil => simp at e
    | cons y ys =>
      simp only [List.map_cons, List.cons.injEq] at e
      have hx := h x (by simp)
      have hy := h' y (by simp)
      have e1 := congrArg UInt8.toNat e.1
      simp only [UInt8.toNat_ofNat'] at e1
      have : x = y := by omega
      rw [this, ih (fun z hz => h z (by simp [hz])) (fun z hz => h' z (by simp [hz])) e.2]
theorem bstr_eq {l l' : List Int} (h : ∀ x ∈ l, 0 ≤ x ∧ x < 256) (h' : ∀ x ∈ l', 0 ≤ x ∧ x < 256) : ((bstr l).toList == (bstr l').toList) = decide (l = l') := by
  rw [bstr_toList, bstr_toList, Bool.eq_iff_iff]
  simp only [beq_iff_eq, decide_eq_true_eq]
  exact ⟨bytes_inj' h h', fun e => by rw [e]⟩

theorem Ox.b2s {T T' e : Nat} [hT : UT P T (.slice e)] [he : UT P e (.int .u8)] [hd : UT P T' .string] {x : Operand} {n : Nat} {l : List Int} (hx : Rd w (ev ρ x) n (l.map (Value.int .u8))) (hn : l.length = n)
    (h : K (.string (bstr l)) w) : Ox P ⟨d, .convert T T' x, ty, pos, aft, g⟩ ρ w K := by
  obtain ⟨a, c, hv, hnc, hcell⟩ := hx
  subst hn
  have hr := run_convert_bytes_string (P := P) w T T' e a l.length c hT.out he.out hd.out
  have hb : (Conv.bytesToString (.slice a l.length c)).run P w = .ok (.string (bstr l)) w := by
    cases a with
    | none =>
      have hl : l = [] := by
        cases l with
        | nil => rfl
        | cons u us => obtain ⟨ad, h, _⟩ := hcell 0 (.int .u8 u) rfl; simp at h
      subst hl
      simp [Conv.bytesToString, bstr]; rfl
    | some ad =>
      have hc' := run_loadCells_list (P := P) (w := w) ad (l.map (Value.int .u8)) (fun j u hj => by
        obtain ⟨ad', h1, h2⟩ := hcell j u hj
        cases h1; exact h2)
      rw [List.length_map] at hc'
      rw [run_bytesToString w ad l.length c l hc', bstr_foldl]
      simp [bstr, ByteArray.empty, ByteArray.emptyWithCapacity]; rfl
  simpa [Ox, execOp, hv, hr, hb] using h

theorem Ox.eqlS {T T' : Nat} {x y : Operand} {a b : ByteArray} (hx : ev ρ x = .string a) (hy : ev ρ y = .string b) (h : K (.bool (a.toList == b.toList)) w) : Ox P ⟨d, .binOp .eql T x y T', ty, pos, aft, g⟩ ρ w K := by
  have hg : (eqGuard .eql T x y (.string a) (.string b)).run P w = .ok () w := by simp [eqGuard]
  simpa [Ox, execOp, hx, hy, hg, go_sem] using h
theorem Ox.eqlSame {T T' : Nat} {x y : Operand} {a : ByteArray} (hx : ev ρ x = .string a) (hy : ev ρ y = .string a) (h : K (.bool true) w) : Ox P ⟨d, .binOp .eql T x y T', ty, pos, aft, g⟩ ρ w K :=
  Ox.eqlS hx hy (by simpa using h)
theorem Ox.neqS {T T' : Nat} {x y : Operand} {a b : ByteArray} (hx : ev ρ x = .string a) (hy : ev ρ y = .string b) (h : K (.bool (!(a.toList == b.toList))) w) : Ox P ⟨d, .binOp .neq T x y T', ty, pos, aft, g⟩ ρ w K := by
  have hg : (eqGuard .neq T x y (.string a) (.string b)).run P w = .ok () w := by simp [eqGuard]
  simpa [Ox, execOp, hx, hy, hg, go_sem] using h

theorem Ox.extract {x : Operand} {vs : Array Value} {i : Nat} {v : Value} (hx : ev ρ x = .tuple vs) (hv : vs[i]? = some v) (h : K v w) : Ox P ⟨d, .extract x i, ty, pos, aft, g⟩ ρ w K := by
  simpa [Ox, execOp, hx, Instr.extract, hv, go_sem] using h
theorem Ox.makeFunc {fn : Fn} {first captured : Array Operand} (h : K (.func fn (first.map (ev ρ)) (captured.map (ev ρ))) w) : Ox P ⟨d, .makeFunc fn first captured, ty, pos, aft, g⟩ ρ w K := by
  simpa [Ox, execOp, Instr.makeFunc, go_sem] using h
inductive EvM (ρ : Env) : List Operand → List Value → Prop
  | nil : EvM ρ [] []
  | cons {x : Operand} {a : Value} {ps : List Operand} {vs : List Value} : ev ρ x = a → EvM ρ ps vs → EvM ρ (x :: ps) (a :: vs)
theorem EvM.out {ps : List Operand} {vs : List Value} (h : EvM ρ ps vs) : ps.map (ev ρ) = vs := by
  induction h with
  | nil => rfl
  | cons h _ ih => simp [h, ih]
theorem Ox.makeFuncE {fn : Fn} {captured : List Operand} {vs : List Value} (he : EvM ρ captured vs) (h : K (.func fn #[] vs.toArray) w) : Ox P ⟨d, .makeFunc fn #[] ⟨captured⟩, ty, pos, aft, g⟩ ρ w K :=
  Ox.makeFunc (by rw [show (Array.mk captured).map (ev ρ) = vs.toArray by rw [← he.out]; simp]; simpa using h)
theorem Ox.callV {x : Operand} {f : Nat} {fst cap : Array Value} {args : Array Operand} {ts : Array TypeId} {fn : Func} {c : Code} (hx : ev ρ x = .func (.func f) fst cap) (hf : P.funcs[f]? = some fn) (hb : fn.body = some c) (hn : (fn.name == "runtime.NumGoroutine") = false)
    (h : Calls P f (fst ++ args.map (ev ρ) ++ cap) w fun e w' => ∃ v, e = .returned v ∧ K v w') : Ox P ⟨d, .call { callee := .value x, args := args, argTypes := ts }, ty, pos, aft, g⟩ ρ w K := by
  have hn' : fn.name ≠ "runtime.NumGoroutine" := by simpa using hn
  simpa [Ox, execOp, resolve, hx, Deferred.ofValue, invoke, callFunc, go_sem, hf, hb, hn'] using h
theorem Ox.eqlSN {T T' e : Nat} [hT : UT P T (.slice e)] {x y : Operand} {a : Option Addr} {n c : Nat} (hx : ev ρ x = .slice a n c) (hy : ev ρ y = .slice none 0 0) (h : K (.bool a.isNone) w) : Ox P ⟨d, .binOp .eql T x y T', ty, pos, aft, g⟩ ρ w K := by
  have hr : (binOp .eql T (.slice a n c) (.slice none 0 0)).run P w = .ok (.bool a.isNone) w := by
    simp only [binOp]
    simp [run_equal_slice_nil w T e a n c hT.out]
  have hg : (eqGuard .eql T x y (.slice a n c) (.slice none 0 0)).run P w = .ok () w := by simp [eqGuard]
  simpa [Ox, execOp, hx, hy, hr, hg] using h

theorem run_equalIn_ptr_nil (t e : TypeId) (p : Option Addr) (h : P.underlying t = some (.pointer e)) : (Op.equal t (.pointer p) (.pointer none)).run P w = .ok p.isNone w := by
  have he : P.pointee t = e := by simp [Program.pointee, h]
  exact run_equal_pointer_nil w t p (by rw [he]; exact h)
theorem Ox.eqlPN {T T' e : Nat} [hT : UT P T (.pointer e)] {x y : Operand} {a : Option Addr} (hx : ev ρ x = .pointer a) (hy : ev ρ y = .pointer none) (h : K (.bool a.isNone) w) : Ox P ⟨d, .binOp .eql T x y T', ty, pos, aft, g⟩ ρ w K := by
  have hr : (binOp .eql T (.pointer a) (.pointer none)).run P w = .ok (.bool a.isNone) w := by
    simp only [binOp]
    simp [run_equalIn_ptr_nil T e a hT.out]
  have hg : (eqGuard .eql T x y (.pointer a) (.pointer none)).run P w = .ok () w := by simp [eqGuard]
  simpa [Ox, execOp, hx, hy, hr, hg] using h
theorem Ox.neqPN {T T' e : Nat} [hT : UT P T (.pointer e)] {x y : Operand} {a : Option Addr} (hx : ev ρ x = .pointer a) (hy : ev ρ y = .pointer none) (h : K (.bool a.isSome) w) : Ox P ⟨d, .binOp .neq T x y T', ty, pos, aft, g⟩ ρ w K := by
  have hr : (binOp .neq T (.pointer a) (.pointer none)).run P w = .ok (.bool a.isSome) w := by
    simp only [binOp]
    simp [run_equalIn_ptr_nil T e a hT.out]
  have hg : (eqGuard .neq T x y (.pointer a) (.pointer none)).run P w = .ok () w := by simp [eqGuard]
  simpa [Ox, execOp, hx, hy, hr, hg] using h

theorem Ox.shl {T T' : Nat} {x y : Operand} {k k' : IntKind} {a b : Int} (hx : ev ρ x = .int k a) (hy : ev ρ y = .int k' b) {v : Value} (hv : ∀ w, (Op.shift .shl k a k' b).run P w = .ok v w) (h : K v w) : Ox P ⟨d, .binOp .shl T x y T', ty, pos, aft, g⟩ ρ w K := by
  have hg : (eqGuard .shl T x y (.int k a) (.int k' b)).run P w = .ok () w := by simp [eqGuard]
  simpa [Ox, execOp, hx, hy, hg, binOp, hv] using h
theorem Ox.shr {T T' : Nat} {x y : Operand} {k k' : IntKind} {a b : Int} (hx : ev ρ x = .int k a) (hy : ev ρ y = .int k' b) {v : Value} (hv : ∀ w, (Op.shift .shr k a k' b).run P w = .ok v w) (h : K v w) : Ox P ⟨d, .binOp .shr T x y T', ty, pos, aft, g⟩ ρ w K := by
  have hg : (eqGuard .shr T x y (.int k a) (.int k' b)).run P w = .ok () w := by simp [eqGuard]
  simpa [Ox, execOp, hx, hy, hg, binOp, hv] using h

-- structs
class SZ (P : Program) (t : Nat) (size : outParam Nat) : Prop where
  size : (P.info? t).map (·.size) = some size
  agg : (P.underlying t).map scalarD = some false
theorem isAgg_agg {t s : Nat} (h : SZ P t s) : (isAgg t).run P w = .ok true w := by
  have := h.agg
  cases hu : P.underlying t with
  | none => simp [hu] at this
  | some dd =>
    simp [hu] at this
    cases dd <;> simp_all [isAgg, run_underlying hu, scalarD]
theorem Ox.loadAgg {t s : Nat} [ho : SZ P t s] {x : Operand} {b o : Nat} {cs : List Value} (hx : ev ρ x = .pointer (some ⟨b, o, none⟩)) (hl : cs.length = s) (hv : ∀ j v, cs[j]? = some v → w.cell? ⟨b, o + j, none⟩ = some v)
    (h : K (.agg cs.toArray) w) : Ox P ⟨d, .load t x, ty, pos, aft, g⟩ ρ w K := by
  have h1 := ho.size
  cases hi : P.info? t with
  | none => simp [hi] at h1
  | some i =>
    simp [hi] at h1
    have hc := run_loadCells_list (P := P) (w := w) ⟨b, o, none⟩ cs (fun j v hj => by rw [show (⟨b, o, none⟩ : Addr).add j = ⟨b, o + j, none⟩ from by unfold Addr.add; split <;> simp_all]; exact hv j v hj)
    rw [hl] at hc
    have hrun : (loadVar t ⟨b, o, none⟩).run P w = .ok (.agg cs.toArray) w := by
      unfold loadVar
      simp [isAgg_agg ho, sizeOf, typeInfo, hi, h1, hc]
    simpa [Ox, execOp, hx, Instr.loadAt, Instr.sureAddr, hrun] using h

theorem Ox.box {t : Nat} {x : Operand} {v : Value} (hx : ev ρ x = v) (h : K (.pointer (some ⟨w.heap.size, 0, none⟩)) (w.alloc (.cells v.cells t))) : Ox P ⟨d, .box t x, ty, pos, aft, g⟩ ρ w K := by
  simpa [Ox, execOp, hx, Instr.box, newVar, newRow, go_sem] using h
theorem Ox.alloc {t size bytes : Nat} {z : Value} [hE : EI P t z size bytes] (h : K (.pointer (some ⟨w.heap.size, 0, none⟩)) (w.alloc (.cells z.cells t))) : Ox P ⟨d, .alloc t, ty, pos, aft, g⟩ ρ w K := by
  obtain ⟨i0, hi0, hz0, hz1, hz2⟩ := info_parts hE.out
  simpa [Ox, execOp, Instr.alloc, zeroValue, typeInfo, hi0, hz0, newVar, newRow, go_sem] using h

/-- A struct's value out of its parts. -/
def putCells (cs : List Value) (off : Nat) : List Value → List Value
  | [] => cs
  | v :: vs => putCells (cs.set off v) (off + 1) vs
class ST (P : Program) (t : Nat) (zero : outParam (List Value)) (places : outParam (List (Nat × Nat))) : Prop where
  out : (P.info? t).bind (fun i => i.zero.map (fun z => z.cells.toList)) = some zero
  pl : (match P.underlying t with | some (.struct fs) => fs.toList.mapM (fun f => (P.info? f.type).map fun i => (f.offset, i.size)) | _ => none) = some places
theorem run_mapM_opt {α β : Type} (G : α → Sem β) (F : α → Option β) (hG : ∀ f p, F f = some p → (G f).run P w = .ok p w) (l : List α) : ∀ ps, l.mapM F = some ps → (l.mapM G).run P w = .ok ps w := by
  induction l with
  | nil => intro ps h; simp at h; subst h; rfl
  | cons f l ih =>
    intro ps h
    simp only [List.mapM_cons, Option.bind_eq_bind, Option.bind_eq_some_iff] at h
    obtain ⟨p, hp, ps', hps, h⟩ := h
    simp at h; subst h
    rw [List.mapM_cons]
    simp only [Sem.run_bind, hG f p hp, Result.andThen_ok, ih ps' hps, Sem.run_pure]
theorem run_sizeOf {t : TypeId} {i : TypeInfo} (hi : P.info? t = some i) : (sizeOf t).run P w = .ok i.size w := by
  simp [sizeOf, typeInfo, hi]
theorem run_zeroValue {t : TypeId} {i : TypeInfo} {z : Value} (hi : P.info? t = some i) (hz : i.zero = some z) : (zeroValue t).run P w = .ok z w := by
  simp [zeroValue, typeInfo, hi, hz]
theorem Ox.build {t : Nat} {zero : List Value} {places : List (Nat × Nat)} [hS : ST P t zero places] {parts : Array (Nat × Operand)} {cs : Array Value}
    (hf : Instr.fill (places[·]?) zero.toArray (parts.toList.map fun p => (p.1, ev ρ p.2)) = some cs) (h : K (.agg cs) w) : Ox P ⟨d, .build t parts, ty, pos, aft, g⟩ ρ w K := by
  have h1 := hS.out
  have h2 := hS.pl
  cases hi : P.info? t with
  | none => simp [hi] at h1
  | some i =>
    cases hz : i.zero with
    | none => simp [hi, hz] at h1
    | some z =>
      simp [hi, hz] at h1
      cases hu : P.underlying t with
      | none => simp [hu] at h2
      | some dd =>
        cases dd <;> simp [hu] at h2
        rename_i fs
        have hG : ∀ (f : Field) p, ((P.info? f.type).map fun i => (f.offset, i.size)) = some p → ((do pure (f.offset, ← sizeOf f.type)) : Sem (Nat × Nat)).run P w = .ok p w := by
          intro f p h
          rw [Option.map_eq_some_iff] at h
          obtain ⟨i', hi', rfl⟩ := h
          simp only [Sem.run_bind, run_sizeOf hi', Result.andThen_ok, Sem.run_pure]
        have hm := run_mapM_opt (P := P) (w := w) (fun f : Field => do pure (f.offset, ← sizeOf f.type)) _ hG fs.toList places h2
        have hma : (fs.mapM (fun f => do pure (f.offset, ← sizeOf f.type) : Field → Sem (Nat × Nat))).run P w = .ok places.toArray w := by
          rw [Array.mapM_eq_mapM_toList]
          rw [Sem.run_map, hm]; rfl
        have hzc : z.cells = zero.toArray := by rw [← h1]
        have hparts : (parts.map fun p => (p.1, ev ρ p.2)).toList = parts.toList.map fun p => (p.1, ev ρ p.2) := by simp
        have hrun : (Instr.build t (parts.map fun x => (x.1, ev ρ x.2))).run P w = .ok (.agg cs) w := by
          unfold Instr.build
          simp only [Sem.run_bind, run_zeroValue hi hz, Result.andThen_ok, run_underlying hu, hma, hzc]
          have : (fun x : Nat => places.toArray[x]?) = (fun x : Nat => places[x]?) := by funext x; simp
          simp only [this, hparts, hf, Sem.run_pure]
        simpa [Ox, execOp, hrun] using h
inductive EvL (ρ : Env) : List (Nat × Operand) → List (Nat × Value) → Prop
  | nil : EvL ρ [] []
  | cons {i : Nat} {x : Operand} {a : Value} {ps : List (Nat × Operand)} {vs : List (Nat × Value)} : ev ρ x = a → EvL ρ ps vs → EvL ρ ((i, x) :: ps) ((i, a) :: vs)
theorem EvL.out {ps : List (Nat × Operand)} {vs : List (Nat × Value)} (h : EvL ρ ps vs) : ps.map (fun p => (p.1, ev ρ p.2)) = vs := by
  induction h with
  | nil => rfl
  | cons h _ ih => simp [h, ih]
theorem Ox.buildE {t : Nat} {zero : List Value} {places : List (Nat × Nat)} [hS : ST P t zero places] {parts : List (Nat × Operand)} {vs : List (Nat × Value)} {cs : Array Value}
    (he : EvL ρ parts vs) (hf : Instr.fill (places[·]?) zero.toArray vs = some cs) (h : K (.agg cs) w) : Ox P ⟨d, .build t ⟨parts⟩, ty, pos, aft, g⟩ ρ w K :=
  Ox.build (by show Instr.fill _ _ (parts.map _) = _; rw [he.out]; exact hf) h

theorem Ox.buildSlice {T e size bytes : Nat} {z : Value} [hT : UT P T (.slice e)] [hE : EI P e z size bytes] {ln : Nat} {parts : Array (Nat × Operand)} {cs : Array Value} (hsm : ln * size ≤ 16777216)
    (hf : Instr.fill (fun i => some (i * size, size)) (Array.range (ln * size) |>.map (z.cells[· % z.cells.size]!)) (parts.toList.map fun p => (p.1, ev ρ p.2)) = some cs)
    (h : K (.slice (some ⟨w.heap.size, 0, none⟩) ln ln) (w.alloc (.cells cs e))) : Ox P ⟨d, .buildSlice T ln parts, ty, pos, aft, g⟩ ρ w K := by
  obtain ⟨i0, hi0, hz0, hz1, hz2⟩ := info_parts hE.out
  have hparts : (parts.map fun p => (p.1, ev ρ p.2)).toList = parts.toList.map fun p => (p.1, ev ρ p.2) := by simp
  have hrun : (Instr.buildSlice T ln (parts.map fun x => (x.1, ev ρ x.2))).run P w = .ok (.slice (some ⟨w.heap.size, 0, none⟩) ln ln) (w.alloc (.cells cs e)) := by
    unfold Instr.buildSlice
    simp only [Sem.run_bind, run_underlying hT.out, run_sizeOf hi0, Result.andThen_ok, hz1]
    rw [if_neg (by omega)]
    by_cases hn : ln * size = 0
    · have hr0 : (Array.range 0).map (fun i => z.cells[i % z.cells.size]!) = (#[] : Array Value) := by simp
      rw [hn] at hf
      rw [hr0] at hf
      rw [if_pos hn]
      have hr1 : (Array.range (ln * size)).map (fun i => (#[] : Array Value)[i % (#[] : Array Value).size]!) = #[] := by rw [hn]; simp
      simp only [Sem.run_bind, Sem.run_pure, Result.andThen_ok, hr1, hparts, hf]
      simp [newRow]
    · rw [if_neg hn]
      simp only [Sem.run_bind, run_zeroValue hi0 hz0, Sem.run_pure, Result.andThen_ok, hparts, hf]
      simp [newRow]
  simpa [Ox, execOp, hrun] using h

theorem Ox.storeAgg {t s : Nat} [ho : SZ P t s] {x y : Operand} {b : Nat} {T : TypeId} {old : Array Value} {vs : List Value} (hx : ev ρ x = .pointer (some ⟨b, 0, none⟩)) (hb : w.heap[b]? = some (.cells old T (0, 0))) (ho' : old.size = s)
    (hy : ev ρ y = .agg vs.toArray) (hl : vs.length = s) (h1 : ∀ v ∈ vs, v.oneCell' = true) (h : K undef (w.setRow b vs.toArray)) : Ox P ⟨d, .store t x y, ty, pos, aft, g⟩ ρ w K := by
  have h1' := ho.size
  cases hi : P.info? t with
  | none => simp [hi] at h1'
  | some i =>
    simp [hi] at h1'
    have hst := run_storeCells_at P b 0 T vs 0 old w hb (by omega) h1
    have hrun : (storeVar t ⟨b, 0, none⟩ (.agg vs.toArray)).run P w = .ok () (w.setRow b vs.toArray) := by
      unfold storeVar
      have e1 : vs.length = i.size := by rw [hl, h1']
      simp only [Nat.add_zero, List.take_zero, List.nil_append, Nat.zero_add] at hst
      rw [List.drop_eq_nil_of_le (by rw [Array.length_toList]; omega), List.append_nil] at hst
      simp [sizeOf, typeInfo, hi, Value.cells, e1, hst]
    simpa [Ox, execOp, hx, hy, Instr.storeAt, Instr.sureAddr, hrun] using h

theorem Ox.loadAggB {t s : Nat} [ho : SZ P t s] {x : Operand} {b o : Nat} {T : TypeId} {f : Nat × Nat} {old : Array Value} {cs : List Value} (hx : ev ρ x = .pointer (some ⟨b, o, none⟩)) (hb : w.heap[b]? = some (.cells old T f)) (hfit : o + s ≤ old.size)
    (hc : (old.toList.drop o).take s = cs) (h : K (.agg cs.toArray) w) : Ox P ⟨d, .load t x, ty, pos, aft, g⟩ ρ w K := by
  subst hc
  refine Ox.loadAgg hx (by simp; omega) (fun j v hj => ?_) h
  refine cell_of hb ?_
  rw [List.getElem?_take] at hj
  split at hj
  · rw [List.getElem?_drop] at hj; simpa using hj
  · simp at hj
class CF (P : Program) (f : Nat) : Prop where out : ∃ fn c, P.funcs[f]? = some fn ∧ fn.body = some c ∧ (fn.name == "runtime.NumGoroutine") = false
section
variable {f : Nat} [hf : CF P f] {ts : Array TypeId} {x1 x2 x3 x4 x5 x6 : Operand} {a1 a2 a3 a4 a5 a6 : Value}
include hf
theorem Ox.callN {args : Array Operand} {vs : Array Value} (ha : args.map (ev ρ) = vs) (h : Calls P f vs w fun e w' => ∃ v, e = .returned v ∧ K v w') : Ox P ⟨d, .call { callee := .value (.func f), args := args, argTypes := ts }, ty, pos, aft, g⟩ ρ w K := by
  obtain ⟨fn, c, h1, h2, h3⟩ := hf.out
  exact Ox.call h1 h2 h3 (by rw [ha]; exact h)
theorem Ox.call0 (h : Calls P f #[] w fun e w' => ∃ v, e = .returned v ∧ K v w') : Ox P ⟨d, .call { callee := .value (.func f), args := #[], argTypes := ts }, ty, pos, aft, g⟩ ρ w K := Ox.callN (by simp) h
theorem Ox.call1 (h1 : ev ρ x1 = a1) (h : Calls P f #[a1] w fun e w' => ∃ v, e = .returned v ∧ K v w') : Ox P ⟨d, .call { callee := .value (.func f), args := #[x1], argTypes := ts }, ty, pos, aft, g⟩ ρ w K := Ox.callN (by simp [h1]) h
theorem Ox.call2 (h1 : ev ρ x1 = a1) (h2 : ev ρ x2 = a2) (h : Calls P f #[a1, a2] w fun e w' => ∃ v, e = .returned v ∧ K v w') : Ox P ⟨d, .call { callee := .value (.func f), args := #[x1, x2], argTypes := ts }, ty, pos, aft, g⟩ ρ w K := Ox.callN (by simp [h1, h2]) h
theorem Ox.call3 (h1 : ev ρ x1 = a1) (h2 : ev ρ x2 = a2) (h3 : ev ρ x3 = a3) (h : Calls P f #[a1, a2, a3] w fun e w' => ∃ v, e = .returned v ∧ K v w') : Ox P ⟨d, .call { callee := .value (.func f), args := #[x1, x2, x3], argTypes := ts }, ty, pos, aft, g⟩ ρ w K := Ox.callN (by simp [h1, h2, h3]) h
theorem Ox.call4 (h1 : ev ρ x1 = a1) (h2 : ev ρ x2 = a2) (h3 : ev ρ x3 = a3) (h4 : ev ρ x4 = a4) (h : Calls P f #[a1, a2, a3, a4] w fun e w' => ∃ v, e = .returned v ∧ K v w') : Ox P ⟨d, .call { callee := .value (.func f), args := #[x1, x2, x3, x4], argTypes := ts }, ty, pos, aft, g⟩ ρ w K := Ox.callN (by simp [h1, h2, h3, h4]) h
theorem Ox.call5 (h1 : ev ρ x1 = a1) (h2 : ev ρ x2 = a2) (h3 : ev ρ x3 = a3) (h4 : ev ρ x4 = a4) (h5 : ev ρ x5 = a5) (h : Calls P f #[a1, a2, a3, a4, a5] w fun e w' => ∃ v, e = .returned v ∧ K v w') : Ox P ⟨d, .call { callee := .value (.func f), args := #[x1, x2, x3, x4, x5], argTypes := ts }, ty, pos, aft, g⟩ ρ w K := Ox.callN (by simp [h1, h2, h3, h4, h5]) h
theorem Ox.call6 (h1 : ev ρ x1 = a1) (h2 : ev ρ x2 = a2) (h3 : ev ρ x3 = a3) (h4 : ev ρ x4 = a4) (h5 : ev ρ x5 = a5) (h6 : ev ρ x6 = a6) (h : Calls P f #[a1, a2, a3, a4, a5, a6] w fun e w' => ∃ v, e = .returned v ∧ K v w') : Ox P ⟨d, .call { callee := .value (.func f), args := #[x1, x2, x3, x4, x5, x6], argTypes := ts }, ty, pos, aft, g⟩ ρ w K := Ox.callN (by simp [h1, h2, h3, h4, h5, h6]) h
omit hf in
theorem Ox.callV0 {fst cap vs : Array Value} (hx : ev ρ x1 = .func (.func f) fst cap) (hvs : fst ++ cap = vs) (hf : CF P f) (h : Calls P f vs w fun e w' => ∃ v, e = .returned v ∧ K v w') : Ox P ⟨d, .call { callee := .value x1, args := #[], argTypes := ts }, ty, pos, aft, g⟩ ρ w K := by
  obtain ⟨fn, c, h1, h2, h3⟩ := hf.out
  exact Ox.callV hx h1 h2 h3 (by simpa [hvs] using h)
end

/-- What a store does, the world a variable again. -/
theorem Ox.storeB {t b i : Nat} [ho : S1 P t] {x y : Operand} {c c' : Array Value} {T : TypeId} {v : Value} (hx : ev ρ x = .pointer (some ⟨b, i, none⟩)) (hb : w.heap[b]? = some (.cells c T (0, 0))) (hi : i < c.size)
    (hy : ev ρ y = v) (hv : plainV v = true) (hc : c.setIfInBounds i v = c') (h : ∀ w', w'.heap[b]? = some (.cells c' T (0, 0)) → Fr w w' [b] → w'.heap.size = w.heap.size → K undef w') : Ox P ⟨d, .store t x y, ty, pos, aft, g⟩ ρ w K := by
  subst hy
  refine Ox.store hx (cell_of hb (Array.getElem?_eq_getElem hi)) (free_of hb) hv (h _ (by rw [heap_set hb, hc]) ((Fr.refl _ _).set (by simp) _) heap_set_size)
theorem Fr.new (w : World) (o : Obj) : Fr w (w.alloc o) [] := (Fr.refl _ _).alloc _
theorem Ox.boxB {t : Nat} {x : Operand} {v : Value} {c : Array Value} (hx : ev ρ x = v) (hc : v.cells = c) (h : ∀ b w', w'.heap[b]? = some (.cells c t (0, 0)) → Fr w w' [] → b = w.heap.size → w'.heap.size = w.heap.size + 1 → K (.pointer (some ⟨b, 0, none⟩)) w') : Ox P ⟨d, .box t x, ty, pos, aft, g⟩ ρ w K := by
  subst hc; exact Ox.box hx (h _ _ (heap_alloc_new w _) (Fr.new _ _) rfl (by simp))
theorem Ox.allocB {t size bytes : Nat} {z : Value} [hE : EI P t z size bytes] {c : Array Value} (hc : z.cells = c) (h : ∀ b w', w'.heap[b]? = some (.cells c t (0, 0)) → Fr w w' [] → b = w.heap.size → w'.heap.size = w.heap.size + 1 → K (.pointer (some ⟨b, 0, none⟩)) w') : Ox P ⟨d, .alloc t, ty, pos, aft, g⟩ ρ w K := by
  subst hc; exact Ox.alloc (h _ _ (heap_alloc_new w _) (Fr.new _ _) rfl (by simp))
theorem Ox.makeB {T e size bytes : Nat} {z : Value} [hT : UT P T (.slice e)] [hE : EI P e z size bytes] {ln cp : Operand} {kl kc : IntKind} {l c : Int} (hl : ev ρ ln = .int kl l) (hc : ev ρ cp = .int kc c) (h0 : 0 ≤ l) (hlc : l ≤ c) (hb : (bytes : Int) * c ≤ 281474976710656) (h63 : c ≤ 9223372036854775807)
    (h : ∀ b w', w'.heap[b]? = some (.cells (madeCells z.cells (c.toNat * size)) e (0, 0)) → Fr w w' [] → b = w.heap.size → w'.heap.size = w.heap.size + 1 → K (.slice (some ⟨b, 0, none⟩) l.toNat c.toNat) w') : Ox P ⟨d, .makeSlice T ln cp, ty, pos, aft, g⟩ ρ w K :=
  Ox.make hl hc h0 hlc hb h63 (h _ _ (heap_alloc_new w _) (Fr.new _ _) rfl (by simp))
theorem Ox.buildSliceB {T e size bytes : Nat} {z : Value} [hT : UT P T (.slice e)] [hE : EI P e z size bytes] {ln : Nat} {parts : Array (Nat × Operand)} {cs : Array Value} (hsm : ln * size ≤ 16777216)
    (hf : Instr.fill (fun i => some (i * size, size)) (Array.range (ln * size) |>.map (z.cells[· % z.cells.size]!)) (parts.toList.map fun p => (p.1, ev ρ p.2)) = some cs)
    (h : ∀ b w', w'.heap[b]? = some (.cells cs e (0, 0)) → Fr w w' [] → b = w.heap.size → w'.heap.size = w.heap.size + 1 → K (.slice (some ⟨b, 0, none⟩) ln ln) w') : Ox P ⟨d, .buildSlice T ln parts, ty, pos, aft, g⟩ ρ w K :=
  Ox.buildSlice hsm hf (h _ _ (heap_alloc_new w _) (Fr.new _ _) rfl (by simp))
theorem Ox.buildSliceE {T e size bytes : Nat} {z : Value} [hT : UT P T (.slice e)] [hE : EI P e z size bytes] {ln : Nat} {parts : List (Nat × Operand)} {vs : List (Nat × Value)} {cs : Array Value} (he : EvL ρ parts vs) (hsm : ln * size ≤ 16777216)
    (hf : Instr.fill (fun i => some (i * size, size)) (Array.range (ln * size) |>.map (z.cells[· % z.cells.size]!)) vs = some cs)
    (h : ∀ b w', w'.heap[b]? = some (.cells cs e (0, 0)) → Fr w w' [] → b = w.heap.size → w'.heap.size = w.heap.size + 1 → K (.slice (some ⟨b, 0, none⟩) ln ln) w') : Ox P ⟨d, .buildSlice T ln ⟨parts⟩, ty, pos, aft, g⟩ ρ w K :=
  Ox.buildSliceB hsm (by show Instr.fill _ _ (parts.map _) = _; rw [he.out]; exact hf) h
theorem Ox.bs0 {T e size bytes : Nat} {z : Value} [hT : UT P T (.slice e)] [hE : EI P e z size bytes]
    (h : ∀ b w', w'.heap[b]? = some (.cells #[] e (0, 0)) → Fr w w' [] → b = w.heap.size → w'.heap.size = w.heap.size + 1 → K (.slice (some ⟨b, 0, none⟩) 0 0) w') : Ox P ⟨d, .buildSlice T 0 #[], ty, pos, aft, g⟩ ρ w K :=
  Ox.buildSliceB (cs := #[]) (by simp) (by simp [Instr.fill]) h
theorem Ox.bs1 {T e bytes : Nat} {z : Value} [hT : UT P T (.slice e)] [hE : EI P e z 1 bytes] {x1 : Operand} {a1 : Value} (h1 : ev ρ x1 = a1) (c1 : a1.cells = #[a1])
    (h : ∀ b w', w'.heap[b]? = some (.cells #[a1] e (0, 0)) → Fr w w' [] → b = w.heap.size → w'.heap.size = w.heap.size + 1 → K (.slice (some ⟨b, 0, none⟩) 1 1) w') : Ox P ⟨d, .buildSlice T 1 #[(0, x1)], ty, pos, aft, g⟩ ρ w K :=
  by
  have e : Array.range 1 = #[0] := by decide
  exact Ox.buildSliceB (z := z) (size := 1) (ln := 1) (cs := #[a1]) (by simp) (by simp [Instr.fill, h1, c1, e]) h
theorem Ox.bs2 {T e bytes : Nat} {z : Value} [hT : UT P T (.slice e)] [hE : EI P e z 1 bytes] {x1 x2 : Operand} {a1 a2 : Value} (h1 : ev ρ x1 = a1) (h2 : ev ρ x2 = a2) (c1 : a1.cells = #[a1]) (c2 : a2.cells = #[a2])
    (h : ∀ b w', w'.heap[b]? = some (.cells #[a1, a2] e (0, 0)) → Fr w w' [] → b = w.heap.size → w'.heap.size = w.heap.size + 1 → K (.slice (some ⟨b, 0, none⟩) 2 2) w') : Ox P ⟨d, .buildSlice T 2 #[(0, x1), (1, x2)], ty, pos, aft, g⟩ ρ w K :=
  by
  have e : Array.range 2 = #[0, 1] := by decide
  exact Ox.buildSliceB (z := z) (size := 1) (ln := 2) (cs := #[a1, a2]) (by simp) (by simp [Instr.fill, h1, h2, c1, c2, e]) h
theorem Ox.shrC {T T' : Nat} {x y : Operand} {k k' : IntKind} {a b : Int} (hx : ev ρ x = .int k a) (hy : ev ρ y = .int k' b) (h0 : 0 ≤ b) (h1 : b ≤ k.bits) (h : K (.int k (a / 2 ^ b.toNat)) w) : Ox P ⟨d, .binOp .shr T x y T', ty, pos, aft, g⟩ ρ w K :=
  Ox.shr hx hy (fun w => by rw [shift_shr k k' a b h0 h1]; rfl) h
theorem Ox.shlC {T T' : Nat} {x y : Operand} {k k' : IntKind} {a b : Int} (hx : ev ρ x = .int k a) (hy : ev ρ y = .int k' b) (h0 : 0 ≤ b) (h1 : b ≤ k.bits) (h : K (.int k (k.wrap (a * 2 ^ b.toNat))) w) : Ox P ⟨d, .binOp .shl T x y T', ty, pos, aft, g⟩ ρ w K :=
  Ox.shl hx hy (fun w => by rw [shift_shl k k' a b h0 h1]; rfl) h
theorem Fr.setRow (w : World) (b : Nat) (cs : Array Value) : Fr w (w.setRow b cs) [b] :=
  ⟨rfl, rfl, rfl, by simp [World.setRow], fun k _ hS => setRow_other w b k cs (fun e => hS (by simp [e]))⟩
theorem Ox.convSame {T e : Nat} [hT : UT P T (.slice e)] [he : UT P e (.int .u8)] {x : Operand} {b o n c : Nat} {cs : Array Value} {t : TypeId} (hx : ev ρ x = .slice (some ⟨b, o, none⟩) n c) (hb : w.heap[b]? = some (.cells cs t (0, 0)))
    (h : ∀ w', w'.heap[b]? = some (.cells cs t (cs.size, cs.size + 1)) → Fr w w' [b] → w'.heap.size = w.heap.size → K (.slice (some ⟨b, o, none⟩) n c) w') : Ox P ⟨d, .convert T T x, ty, pos, aft, g⟩ ρ w K := by
  have hsh : w.shape? b = some (t, cs.size) := by simp [World.shape?, hb]
  have hk := h (w.freeze ⟨b, cs.size, none⟩ 1) (by simp [World.freeze, Array.getElem?_modify, hb]) ⟨rfl, rfl, rfl, by simp [World.freeze], fun k hk hS => by
    simp only [List.mem_singleton] at hS
    simp [World.freeze, Array.getElem?_modify, Ne.symm hS]⟩ (by simp [World.freeze])
  simpa [Ox, execOp, hx, convert, run_underlying hT.out, run_underlying he.out, markStringish, hsh, go_sem] using hk
theorem Ox.storeAggB {t s : Nat} [ho : SZ P t s] {x y : Operand} {b o : Nat} {T : TypeId} {old c' cs : Array Value} (hx : ev ρ x = .pointer (some ⟨b, o, none⟩)) (hb : w.heap[b]? = some (.cells old T (0, 0))) (hfit : o + s ≤ old.size)
    (hy : ev ρ y = .agg cs) (hl : cs.size = s) (h1 : ∀ v ∈ cs.toList, v.oneCell' = true) (hc : (old.toList.take o ++ cs.toList ++ old.toList.drop (o + s)).toArray = c')
    (h : ∀ w', w'.heap[b]? = some (.cells c' T (0, 0)) → Fr w w' [b] → w'.heap.size = w.heap.size → K undef w') : Ox P ⟨d, .store t x y, ty, pos, aft, g⟩ ρ w K := by
  have h1' := ho.size
  have hl' : cs.toList.length = s := by simpa using hl
  cases hi : P.info? t with
  | none => simp [hi] at h1'
  | some i =>
    simp [hi] at h1'
    have hst := run_storeCells_at P b o T cs.toList 0 old w hb (by omega) h1
    have hrun : (storeVar t ⟨b, o, none⟩ (.agg cs)).run P w = .ok () (w.setRow b c') := by
      unfold storeVar
      have e1 : cs.size = i.size := by rw [hl, h1']
      simp only [Nat.add_zero, hl', hc] at hst
      simp [sizeOf, typeInfo, hi, Value.cells, e1, hst]
    have hk := h (w.setRow b c') (setRow_heap w b old _ T _ hb) (Fr.setRow w b _) (by simp [World.setRow])
    simpa [Ox, execOp, hx, hy, Instr.storeAt, Instr.sureAddr, hrun] using hk
theorem Ox.copyB {T e bytes : Nat} {z : Value} [hT : UT P T (.slice e)] [hE : EI P e z 1 bytes] {x y : Operand} {b o n c m : Nat} {news : List Value} {cur : Array Value} {t : TypeId} {v : Value} (hx : ev ρ x = .slice (some ⟨b, o, none⟩) n c) (hy : ev ρ y = v) (hr : Rd w v m news) (hl : news.length = m)
    (h1 : ∀ u ∈ news, u.oneCell' = true) (hb : w.heap[b]? = some (.cells cur t (0, 0))) (hfit : o + n ≤ cur.size)
    (h : ∀ w', w'.heap[b]? = some (.cells (cur.toList.take o ++ news.take n ++ cur.toList.drop (o + Min.min m n)).toArray t (0, 0)) → Fr w w' [b] → w'.heap.size = w.heap.size → K (.int .i64 (Min.min m n : Nat)) w') :
    Ox P ⟨d, .call { callee := .builtin .copy, args := #[x, y], argTypes := #[T, T] }, ty, pos, aft, g⟩ ρ w K := by
  obtain ⟨i0, hi0, hz0, hz1, hz2⟩ := info_parts hE.out
  have hsz : (P.info? e).map (·.size) = some 1 := by rw [hi0]; simp [hz1]
  obtain ⟨a', c', rfl, hmc, hcell⟩ := hr
  cases a' with
  | none =>
    have hn : news = [] := by
      cases news with
      | nil => rfl
      | cons u us => obtain ⟨ad, h, _⟩ := hcell 0 u rfl; simp at h
    subst hn
    simp at hl
    subst hl
    have hrun := run_copy_none (P := P) w T T ty e (some ⟨b, o, none⟩) none n c 0 c' hT.out hsz (by simp)
    have := h w (by simp [hb]) (Fr.refl _ _) rfl
    simp only [Nat.zero_min, Int.natCast_zero] at this
    simpa [Ox, execOp, resolve, hx, hy, invoke, builtin, hrun, goInt] using this
  | some ad =>
    have hlen : (news.take n).length = Min.min m n := by simp [hl, Nat.min_comm]
    have hrun := run_copy_row (P := P) w T T ty e b o n c ad m c' cur t (news.take n) hT.out hsz hb hlen (fun j u hj => by
      rw [List.getElem?_take] at hj
      split at hj
      · obtain ⟨ad', h1, h2⟩ := hcell j u hj; cases h1; exact h2
      · simp at hj) (by rw [hlen]; omega) (fun u hu => h1 u (List.mem_of_mem_take hu))
    rw [hlen] at hrun
    have := h _ (setRow_heap w b cur _ t _ hb) (Fr.setRow w b _) (by simp [World.setRow])
    simpa [Ox, execOp, resolve, hx, hy, invoke, builtin, hrun, goInt] using this
theorem Ox.indexAddr1 {T e bytes : Nat} {z : Value} [hT : UT P T (.slice e)] [hE : EI P e z 1 bytes] {x ix : Operand} {b o o' n c : Nat} {k : IntKind} {i : Int} (hx : ev ρ x = .slice (some ⟨b, o, none⟩) n c) (hi : ev ρ ix = .int k i)
    (h0 : 0 ≤ i) (h1 : i < n) (ho : o + i.toNat = o') (h : K (.pointer (some ⟨b, o', none⟩)) w) : Ox P ⟨d, .indexAddr T x ix, ty, pos, aft, g⟩ ρ w K := by
  have e : (⟨b, o, none⟩ : Addr).add (i.toNat * 1) = ⟨b, o', none⟩ := by subst ho; unfold Addr.add; split <;> simp_all
  exact Ox.indexAddr hx hi h0 h1 (by rw [e]; exact h)
theorem Ox.neqF {T T' : Nat} {x y : Operand} {v v' : Value} {b : Bool} (hx : ev ρ x = v) (hy : ev ρ y = v') (hb : ∀ w, (binOp .neq T v v').run P w = .ok (.bool b) w) (hg : ∀ w, (eqGuard .neq T x y v v').run P w = .ok () w) (h : K (.bool b) w) : Ox P ⟨d, .binOp .neq T x y T', ty, pos, aft, g⟩ ρ w K := by
  simpa [Ox, execOp, hx, hy, hb, hg] using h
end
end Go.Proofs.Ythpdpipcfhodoaa
