/- What the memory's functions do, each proved once: the block that holds its bytes and the block that holds its fields. Conditions: a memory of at most 65536 bytes. -/
import Derived.Test.YthpdpipcfhodoaaTab
namespace Go.Proofs.Ythpdpipcfhodoaa
open Go.RowKit
set_option linter.unusedSimpArgs false
set_option maxHeartbeats 4000000
set_option linter.unusedVariables false

/-- A meter: none; the one that counts down; the one that counts up. -/
inductive Mtr where
  | off
  | down (c : Nat) (n : Int)
  | up (c d : Nat) (n k : Int)

def Mtr.val : Mtr → Value
  | .off => .nilFunc
   | _ => .nilFunc

/-- The meters that this seat's laws set. -/
def Mtr.ok : Mtr → Prop
  | .off => True
   | .down _ _ => False
   | .up _ _ _ _ => False

def Mtr.tick : Mtr → Bool × Mtr
  | .off => (true, .off)
  | .down c n => (decide (0 ≤ IntKind.i64.wrap (n - 1)), .down c (IntKind.i64.wrap (n - 1)))
  | .up c d n k => (decide (IntKind.i64.wrap (n + 1) ≤ k), .up c d (IntKind.i64.wrap (n + 1)) k)

def Mtr.blocks : Mtr → List Nat
  | .off => []
  | .down c _ => [c]
  | .up c d _ _ => [c, d]

def Mtr.In (w : World) : Mtr → Prop
  | .off => True
  | .down c n => w.heap[c]? = some (.cells #[.int .i64 n] 3 (0, 0))
  | .up c d n k => w.heap[c]? = some (.cells #[.int .i64 n] 3 (0, 0)) ∧ w.heap[d]? = some (.cells #[.int .i64 k] 3 (0, 0)) ∧ c ≠ d

structure Mem where
  b : List Int
  off : Bool
  armed : Bool
  left : Int
  mtr : Mtr
  writes : Int

def Mem.valid (M : Mem) (addr n : Int) : Bool := decide (0 ≤ addr ∧ 0 ≤ n ∧ addr + n ≤ M.b.length)

def Mem.write (M : Mem) (addr x : Int) : Bool × Mem :=
  if M.valid addr 1 = false ∨ M.off = true then (false, M)
  else if M.armed = true ∧ M.left = 0 then (false, { M with off := true })
  else if M.mtr.tick.1 = true then
    (true, { M with b := M.b.set addr.toNat x, left := if M.armed = true then IntKind.i64.wrap (M.left - 1) else M.left, mtr := M.mtr.tick.2, writes := IntKind.i64.wrap (M.writes + 1) })
  else (false, { M with off := true, mtr := M.mtr.tick.2 })

structure IsMem (w : World) (g s : Nat) (M : Mem) : Prop where
  hg : w.heap[g]? = some (.cells #[.slice (some ⟨s, 0, none⟩) M.b.length M.b.length, .bool M.off, .bool M.armed, .int .i64 M.left, M.mtr.val, .int .i64 M.writes] 98 (0, 0))
  hs : w.heap[s]? = some (.cells (M.b.map (Value.int .u8)).toArray 5 (0, 0))
  hm : M.mtr.In w
  mok : M.mtr.ok
  ne : g ≠ s
  nm : g ∉ M.mtr.blocks ∧ s ∉ M.mtr.blocks
  len : M.b.length ≤ 65536
  byt : ∀ x ∈ M.b, 0 ≤ x ∧ x < 256

/-- The blocks of a memory. -/
def fp (g s : Nat) (M : Mem) : List Nat := g :: s :: M.mtr.blocks

theorem IsMem.kept {w w' : World} {g s : Nat} {M : Mem} {S : List Nat} (h : IsMem w g s M) (hf : Fr w w' S) (hS : ∀ k, k ∈ fp g s M → k ∉ S) : IsMem w' g s M where
  hg := hf.blk h.hg (hS g (by simp [fp]))
  hs := hf.blk h.hs (hS s (by simp [fp]))
  hm := by
    have hm := h.hm
    have hS' : ∀ k, k ∈ M.mtr.blocks → k ∉ S := fun k hk => hS k (by simp [fp, hk])
    revert hm hS'
    cases M.mtr with
    | off => intro _ _; trivial
    | down c n => intro hm hS'; exact hf.blk hm (hS' c (by simp [Mtr.blocks]))
    | up c d n k => intro hm hS'; exact ⟨hf.blk hm.1 (hS' c (by simp [Mtr.blocks])), hf.blk hm.2.1 (hS' d (by simp [Mtr.blocks])), hm.2.2⟩
  mok := h.mok
  ne := h.ne
  nm := h.nm
  len := h.len
  byt := h.byt

/-- What a call leaves alone, out of what is known of its steps. -/
theorem FrA {w w' : World} {S : List Nat} (h : Fr w w' S := by (focus ((repeat (first | assumption | exact Fr.refl _ _ | refine Fr.back (by assumption) (by first | exact fun k hk => .inl hk | (intro k hk; simp only [List.mem_cons, List.not_mem_nil, or_false] at hk ⊢ <;> first | omega | (simp [Value.ownBlock] at hk ⊢; omega) | (simp [fp, Mtr.blocks, *]; fail_if_success (focus skip)) | (simp [fp, Mtr.blocks, *]; omega)) | (refine subP (by assumption) ?_ ?_ <;> first | omega | (simp; fail_if_success (focus skip)) | exact fun k hk => .inl hk | (intro k hk; simp at hk ⊢; omega)) | (focus (repeat' (first | exact fun k hk => .inl hk | exact fun k hk => .inl (List.mem_cons_of_mem _ hk) | exact fun k hk => .inl (List.mem_cons_of_mem _ (List.mem_cons_of_mem _ hk)) | (with_reducible refine subC ?_ ?_) | (right; omega) | (left; simp; fail_if_success (focus skip)) | (left; simp [fp]; fail_if_success (focus skip)))); fail_if_success (focus skip))) ?_)); fail_if_success (focus skip)))) : Fr w w' S := h
theorem IsMem.k {w w' : World} {g s : Nat} {M : Mem} (h : IsMem w g s M) (hf : Fr w w' [] := by (focus ((repeat (first | assumption | exact Fr.refl _ _ | refine Fr.back (by assumption) (by first | exact fun k hk => .inl hk | (intro k hk; simp only [List.mem_cons, List.not_mem_nil, or_false] at hk ⊢ <;> first | omega | (simp [Value.ownBlock] at hk ⊢; omega) | (simp [fp, Mtr.blocks, *]; fail_if_success (focus skip)) | (simp [fp, Mtr.blocks, *]; omega)) | (refine subP (by assumption) ?_ ?_ <;> first | omega | (simp; fail_if_success (focus skip)) | exact fun k hk => .inl hk | (intro k hk; simp at hk ⊢; omega)) | (focus (repeat' (first | exact fun k hk => .inl hk | exact fun k hk => .inl (List.mem_cons_of_mem _ hk) | exact fun k hk => .inl (List.mem_cons_of_mem _ (List.mem_cons_of_mem _ hk)) | (with_reducible refine subC ?_ ?_) | (right; omega) | (left; simp; fail_if_success (focus skip)) | (left; simp [fp]; fail_if_success (focus skip)))); fail_if_success (focus skip))) ?_)); fail_if_success (focus skip)))) : IsMem w' g s M := h.kept hf (by simp)
theorem BlkA {w : World} {k : Nat} {o : Obj} (h : w.heap[k]? = some o := by (focus ((repeat (first | assumption | refine Fr.blk (by assumption) ?_ (by first | assumption | (simp; fail_if_success (focus skip)) | (simp; omega) | (refine notinP (by assumption) ?_ ?_ <;> first | assumption | omega | (simp; fail_if_success (focus skip)) | (simp; omega)) | (focus ((repeat' (first | assumption | omega | exact List.not_mem_nil | (refine notinN (by assumption) ?_) | (refine notinC ?_ ?_))); fail_if_success (focus skip)))))); fail_if_success (focus skip)))) : w.heap[k]? = some o := h

theorem Mem.valid_iff {M : Mem} {addr n : Int} : M.valid addr n = true ↔ 0 ≤ addr ∧ 0 ≤ n ∧ addr + n ≤ M.b.length := by simp [Mem.valid]
theorem Mem.valid_false {M : Mem} {addr n : Int} : M.valid addr n = false ↔ ¬ (0 ≤ addr ∧ 0 ≤ n ∧ addr + n ≤ M.b.length) := by simp [Mem.valid]

theorem valid_calls {g s : Nat} {M : Mem} (addr k : Int) (w : World) (h : IsMem w g s M) (ha : -9223372036854775808 ≤ addr ∧ addr ≤ 9223372036854775807) (hk : -9223372036854775808 ≤ k ∧ k ≤ 9223372036854775807) :
    Calls Try.prog 64 #[.pointer (some ⟨g, 0, none⟩), .int .i64 addr, .int .i64 k] w fun e w' => e = .returned (.bool (M.valid addr k)) ∧ w = w' := by
  have hg := h.hg
  have hn := h.len
  refine calls_Wp (args := [_, _, _]) Try.func64 rfl Try.ntmps64 (by simp) ?_
  repeat' (first | ((with_reducible show Wo _ _ _ _ _ _ _ _); first | (refine WoA.step ?_) | ((with_reducible apply Wo.nil)) | ((with_reducible apply Wo.step0)) | (refine WoA.list ?_) | (refine WoA.yesT ?_) | (refine WoA.yesF ?_) | (refine WoA.noT ?_) | (refine WoA.noF ?_) | (refine WoA.noU ?_) | (refine WoA.yesTo ?_) | (refine WoA.yesFo ?_) | (refine WoA.noTo ?_) | (refine WoA.noFo ?_) | ((with_reducible apply Wo.part); (exact rfl); (exact rfl); (exact rfl); all_goals (intro hb; (have hb0 := hb; try simp only [decide_eq_true_eq, decide_eq_false_iff_not, Bool.not_eq_true', Bool.not_eq_false', Int.not_lt, Int.not_le, ne_eq, Decidable.not_not] at hb0); (try (exfalso; first | contradiction | omega))))) | ((with_reducible show Ox _ _ _ _ _); first | (refine OxA.move ?_) | (refine OxA.nilCheck ?_) | (refine OxA.fieldAddr0 ?_) | (refine OxA.fieldAddrN ?_) | (refine OxA.fieldAddr ?_) | (refine OxA.load ?_) | (refine OxA.assign ?_) | (refine OxA.pickT ?_) | (refine OxA.pickF ?_) | (refine OxA.pickTo ?_) | (refine OxA.pickFo ?_) | (refine OxA.not ?_) | (refine OxA.add' ?_) | (refine OxA.sub' ?_) | (refine OxA.mul' ?_) | (refine OxA.add ?_) | (refine OxA.sub ?_) | (refine OxA.mul ?_) | (refine OxA.lss ?_) | (refine OxA.leq ?_) | (refine OxA.gtr ?_) | (refine OxA.geq ?_) | (refine OxA.eql ?_) | (refine OxA.neq ?_) | (refine OxA.or ?_) | (refine OxA.and ?_) | (refine OxA.loadAggB ?_) | (refine OxA.storeAggB ?_; intro w1 hb1 hF1 hs1) | (refine OxA.eqlBV ?_) | (refine OxA.neqBV ?_) | (refine OxA.eqlB ?_) | (refine OxA.neqB ?_) | (refine OxA.len ?_) | (refine OxA.convSame ?_; intro w1 hb1 hF1 hs1) | (refine OxA.convI ?_) | (refine OxA.conv ?_) | (refine OxA.storeB ?_; intro w1 hb1 hF1 hs1) | (refine OxA.call1 ?_) | (refine OxA.call2 ?_) | (refine OxA.call3 ?_) | (refine OxA.call4 ?_) | (refine OxA.call5 ?_) | (refine OxA.call6 ?_) | (refine OxA.callV0 ?_) | (refine OxA.indexAddr1 ?_) | ((with_reducible apply Ox.indexAddrN); (exact rfl); (exact rfl); (omega); (omega); (first | (conv => lhs; simp only [Nat.zero_add, Int.toNat_natCast]) | exact rfl)) | (refine OxA.indexAddr ?_) | (refine OxA.extract ?_) | (refine OxA.shrC ?_) | (refine OxA.shlC ?_) | ((with_reducible apply Ox.makeFuncE); (repeat (first | exact EvM.nil | ((with_reducible apply EvM.cons); (conv => lhs; whnf))))) | (refine OxB.buildE ?_) | (refine OxA.boxB ?_; intro b1 w1 hb1 hF1 hg1 hs1) | ((with_reducible apply Ox.bs0); intro b1 w1 hb1 hF1 hg1 hs1) | (refine OxA.bs1 ?_; intro b1 w1 hb1 hF1 hg1 hs1) | (refine OxA.bs2 ?_; intro b1 w1 hb1 hF1 hg1 hs1) | (refine OxB.bsE ?_; intro b1 w1 hb1 hF1 hg1 hs1) | (refine OxA.allocB ?_; intro b1 w1 hb1 hF1 hg1 hs1) | (refine OxA.eqlSN ?_) | (refine OxA.eqlPN ?_) | (refine OxA.neqPN ?_) | (refine OxA.eqlSame ?_) | ((with_reducible apply Ox.neqSame); (exact rfl); (exact rfl)) | (refine OxA.eqlS ?_) | (refine OxA.neqS ?_) | (refine OxA.minL ?_) | (refine OxA.minR ?_) | (refine OxA.maxL ?_) | (refine OxA.maxR ?_) | (refine OxA.min ?_) | (refine OxA.max ?_) | (refine OxA.lenS ?_) | ((with_reducible apply Ox.call0))) | ((with_reducible show Wp _ _ _ _ _ _ _); first | ((with_reducible apply Wp.seq)) | ((with_reducible apply Wp.region)) | ((with_reducible apply Wp.skip)) | ((with_reducible apply Wp.ret)) | (refine WpA.condT ?_) | (refine WpA.condF ?_) | (refine WpA.condTo ?_) | (refine WpA.condFo ?_) | ((with_reducible apply Wp.cond); (exact rfl); all_goals (intro hb; (have hb0 := hb; try simp only [decide_eq_true_eq, decide_eq_false_iff_not, Bool.not_eq_true', Bool.not_eq_false', Int.not_lt, Int.not_le, ne_eq, Decidable.not_not] at hb0); (try (exfalso; first | contradiction | omega)))) | ((with_reducible apply Wp.block)) | ((with_reducible apply Wp.exit)) | ((with_reducible apply Wp.label))) | ((with_reducible apply thenQ_n)) | ((with_reducible apply thenQ_r)) | ((with_reducible apply thenQ_e)) | ((with_reducible apply RetQ.one); (exact rfl); (conv => lhs; whnf)) | ((with_reducible apply RetQ.two); (exact rfl); (conv => lhs; whnf); (conv => lhs; whnf)) | ((with_reducible apply RetQ.zero); (exact rfl)) | ((with_reducible apply RetQ.zeroE); (exact rfl)) | ((with_reducible apply RetQ.three); (exact rfl); (conv => lhs; whnf); (conv => lhs; whnf); (conv => lhs; whnf)) | ((with_reducible apply blockQ_n)) | ((with_reducible apply blockQ_r)) | ((with_reducible apply blockQ_here); (exact rfl)) | ((with_reducible apply blockQ_on); (decide)) | (refine RetQB.lone ?_) | (refine RetQB.many ?_))

  all_goals
    refine ⟨congrArg (fun b => Ending.returned (.bool b)) ?_, rfl⟩
    unfold Mem.valid
    rw [Bool.eq_iff_iff]
    simp
    try omega

def WPost (w : World) (g s : Nat) (M : Mem) (r : Bool × Mem) (e : Ending) (w' : World) : Prop :=
  e = .returned (.bool r.1) ∧ IsMem w' g s r.2 ∧ Fr w w' (fp g s M)

theorem neq_nil (w : World) : (binOp .neq 29 .nilFunc .nilFunc).run Try.prog w = .ok (.bool false) w := by kernel_rfl
theorem neq_fun (f : Fn) (x y : Array Value) (w : World) : (binOp .neq 29 (.func f x y) .nilFunc).run Try.prog w = .ok (.bool true) w := by kernel_rfl
theorem eqg_nil (x y : Operand) (w : World) : (eqGuard .neq 29 x y .nilFunc .nilFunc).run Try.prog w = .ok () w := by simp [eqGuard]
theorem eqg_fun (x y : Operand) (f : Fn) (u v : Array Value) (w : World) : (eqGuard .neq 29 x y (.func f u v) .nilFunc).run Try.prog w = .ok () w := by simp [eqGuard]

theorem byt_set {l : List Int} {k : Nat} {x : Int} (h : ∀ x ∈ l, 0 ≤ x ∧ x < 256) (hx : 0 ≤ x ∧ x ≤ 255) : ∀ y ∈ l.set k x, 0 ≤ y ∧ y < 256 := by
  intro y hy
  rcases List.mem_or_eq_of_mem_set hy with h1 | h1
  · exact h y h1
  · omega
theorem write_no {g s : Nat} {M : Mem} (addr x : Int) (w : World) (h : IsMem w g s M) (ha : -9223372036854775808 ≤ addr ∧ addr ≤ 9223372036854775807) (hvb : M.valid addr 1 = false) :
    Calls Try.prog 86 #[.pointer (some ⟨g, 0, none⟩), .int .i64 addr, .int .u8 x] w (WPost w g s M (M.write addr x)) := by
  have hv := valid_calls addr 1 w h ha (by omega)
  have hg := h.hg
  rw [hvb] at hv
  refine calls_Wp (args := [_, _, _]) Try.func86 rfl Try.ntmps86 (by simp) ?_
  repeat' (first | ((with_reducible show Calls _ _ _ _ _); first | (refine hv.mono ?_; rintro e w' ⟨rfl, rfl⟩; refine ⟨_, rfl, ?_⟩)) | ((with_reducible show Wo _ _ _ _ _ _ _ _); first | (refine WoA.step ?_) | ((with_reducible apply Wo.nil)) | ((with_reducible apply Wo.step0)) | (refine WoA.list ?_) | (refine WoA.yesT ?_) | (refine WoA.yesF ?_) | (refine WoA.noT ?_) | (refine WoA.noF ?_) | (refine WoA.noU ?_) | (refine WoA.yesTo ?_) | (refine WoA.yesFo ?_) | (refine WoA.noTo ?_) | (refine WoA.noFo ?_) | ((with_reducible apply Wo.part); (exact rfl); (exact rfl); (exact rfl); all_goals (intro hb; (have hb0 := hb; try simp only [decide_eq_true_eq, decide_eq_false_iff_not, Bool.not_eq_true', Bool.not_eq_false', Int.not_lt, Int.not_le, ne_eq, Decidable.not_not] at hb0); (try (exfalso; first | contradiction | omega))))) | ((with_reducible show Ox _ _ _ _ _); first | (refine OxA.move ?_) | (refine OxA.nilCheck ?_) | (refine OxA.fieldAddr0 ?_) | (refine OxA.fieldAddrN ?_) | (refine OxA.fieldAddr ?_) | (refine OxA.load ?_) | (refine OxA.assign ?_) | (refine OxA.pickT ?_) | (refine OxA.pickF ?_) | (refine OxA.pickTo ?_) | (refine OxA.pickFo ?_) | (refine OxA.not ?_) | (refine OxA.add' ?_) | (refine OxA.sub' ?_) | (refine OxA.add ?_) | (refine OxA.sub ?_) | (refine OxA.eql ?_) | (refine OxA.neq ?_) | (refine OxA.loadAggB ?_) | (refine OxA.storeAggB ?_; intro w1 hb1 hF1 hs1) | (refine OxA.eqlBV ?_) | (refine OxA.neqBV ?_) | (refine OxA.eqlB ?_) | (refine OxA.neqB ?_) | (refine OxA.storeB ?_; intro w1 hb1 hF1 hs1) | (refine OxA.call3 ?_) | (refine OxA.callV0 ?_) | (refine OxA.indexAddr1 ?_) | ((with_reducible apply Ox.indexAddrN); (exact rfl); (exact rfl); (omega); (omega); (first | (conv => lhs; simp only [Nat.zero_add, Int.toNat_natCast]) | exact rfl)) | (refine OxA.indexAddr ?_) | (refine OxA.eqlSame ?_) | ((with_reducible apply Ox.neqSame); (exact rfl); (exact rfl)) | (refine OxA.eqlS ?_) | (refine OxA.neqS ?_)) | ((with_reducible show Wp _ _ _ _ _ _ _); first | ((with_reducible apply Wp.seq)) | ((with_reducible apply Wp.region)) | ((with_reducible apply Wp.skip)) | ((with_reducible apply Wp.ret)) | (refine WpA.condT ?_) | (refine WpA.condF ?_) | (refine WpA.condTo ?_) | (refine WpA.condFo ?_) | ((with_reducible apply Wp.cond); (exact rfl); all_goals (intro hb; (have hb0 := hb; try simp only [decide_eq_true_eq, decide_eq_false_iff_not, Bool.not_eq_true', Bool.not_eq_false', Int.not_lt, Int.not_le, ne_eq, Decidable.not_not] at hb0); (try (exfalso; first | contradiction | omega)))) | ((with_reducible apply Wp.block)) | ((with_reducible apply Wp.exit)) | ((with_reducible apply Wp.label))) | ((with_reducible apply thenQ_n)) | ((with_reducible apply thenQ_r)) | ((with_reducible apply thenQ_e)) | ((with_reducible apply RetQ.one); (exact rfl); (conv => lhs; whnf)) | ((with_reducible apply blockQ_n)) | ((with_reducible apply blockQ_r)) | ((with_reducible apply blockQ_here); (exact rfl)) | ((with_reducible apply blockQ_on); (decide)))
  have e : M.write addr x = (false, M) := by simp [Mem.write, hvb]
  rw [e]
  exact ⟨rfl, h, Fr.refl _ _⟩

theorem write_off {g s : Nat} {b : List Int} {off armed : Bool} {left wr : Int} (addr x : Int) (w : World) (h : IsMem w g s ⟨b, off, armed, left, .off, wr⟩) (ha : -9223372036854775808 ≤ addr ∧ addr ≤ 9223372036854775807) (hx : 0 ≤ x ∧ x ≤ 255)
    (hvb : Mem.valid ⟨b, off, armed, left, .off, wr⟩ addr 1 = true) :
    Calls Try.prog 86 #[.pointer (some ⟨g, 0, none⟩), .int .i64 addr, .int .u8 x] w (WPost w g s ⟨b, off, armed, left, .off, wr⟩ (Mem.write ⟨b, off, armed, left, .off, wr⟩ addr x)) := by
  have hv := valid_calls addr 1 w h ha (by omega)
  have hg := h.hg
  have hs := h.hs
  have hlen := h.len
  simp only [Mtr.val] at hg hs hlen
  have hne := h.ne
  obtain ⟨hl0, _, hl1⟩ := Mem.valid_iff.1 hvb
  simp only at hl1
  rw [hvb] at hv
  refine calls_Wp (args := [_, _, _]) Try.func86 rfl Try.ntmps86 (by simp) ?_
  repeat' (first | ((with_reducible show Calls _ _ _ _ _); first | (refine hv.mono ?_; rintro e w' ⟨rfl, rfl⟩; refine ⟨_, rfl, ?_⟩)) | ((with_reducible show Wo _ _ _ _ _ _ _ _); first | (refine WoA.step ?_) | ((with_reducible apply Wo.nil)) | ((with_reducible apply Wo.step0)) | (refine WoA.list ?_) | (refine WoA.yesT ?_) | (refine WoA.yesF ?_) | (refine WoA.noT ?_) | (refine WoA.noF ?_) | (refine WoA.noU ?_) | (refine WoA.yesTo ?_) | (refine WoA.yesFo ?_) | (refine WoA.noTo ?_) | (refine WoA.noFo ?_) | ((with_reducible apply Wo.part); (exact rfl); (exact rfl); (exact rfl); all_goals (intro hb; (have hb0 := hb; try simp only [decide_eq_true_eq, decide_eq_false_iff_not, Bool.not_eq_true', Bool.not_eq_false', Int.not_lt, Int.not_le, ne_eq, Decidable.not_not] at hb0); (try (exfalso; first | contradiction | omega))))) | ((with_reducible show Ox _ _ _ _ _); first | ((with_reducible apply Ox.neqF); (exact rfl); (exact rfl); (exact neq_nil); (exact eqg_nil _ _)) | (refine OxA.move ?_) | (refine OxA.nilCheck ?_) | (refine OxA.fieldAddr0 ?_) | (refine OxA.fieldAddrN ?_) | (refine OxA.fieldAddr ?_) | (refine OxA.load ?_) | (refine OxA.assign ?_) | (refine OxA.pickT ?_) | (refine OxA.pickF ?_) | (refine OxA.pickTo ?_) | (refine OxA.pickFo ?_) | (refine OxA.not ?_) | (refine OxA.add' ?_) | (refine OxA.sub' ?_) | (refine OxA.add ?_) | (refine OxA.sub ?_) | (refine OxA.eql ?_) | (refine OxA.neq ?_) | (refine OxA.loadAggB ?_) | (refine OxA.storeAggB ?_; intro w1 hb1 hF1 hs1) | (refine OxA.eqlBV ?_) | (refine OxA.neqBV ?_) | (refine OxA.eqlB ?_) | (refine OxA.neqB ?_) | (refine OxA.storeB ?_; intro w1 hb1 hF1 hs1) | (refine OxA.call3 ?_) | (refine OxA.callV0 ?_) | (refine OxA.indexAddr1 ?_) | ((with_reducible apply Ox.indexAddrN); (exact rfl); (exact rfl); (omega); (omega); (first | (conv => lhs; simp only [Nat.zero_add, Int.toNat_natCast]) | exact rfl)) | (refine OxA.indexAddr ?_) | (refine OxA.eqlSame ?_) | ((with_reducible apply Ox.neqSame); (exact rfl); (exact rfl)) | (refine OxA.eqlS ?_) | (refine OxA.neqS ?_)) | ((with_reducible show Wp _ _ _ _ _ _ _); first | ((with_reducible apply Wp.seq)) | ((with_reducible apply Wp.region)) | ((with_reducible apply Wp.skip)) | ((with_reducible apply Wp.ret)) | (refine WpA.condT ?_) | (refine WpA.condF ?_) | (refine WpA.condTo ?_) | (refine WpA.condFo ?_) | ((with_reducible apply Wp.cond); (exact rfl); all_goals (intro hb; (have hb0 := hb; try simp only [decide_eq_true_eq, decide_eq_false_iff_not, Bool.not_eq_true', Bool.not_eq_false', Int.not_lt, Int.not_le, ne_eq, Decidable.not_not] at hb0); (try (exfalso; first | contradiction | omega)))) | ((with_reducible apply Wp.block)) | ((with_reducible apply Wp.exit)) | ((with_reducible apply Wp.label))) | ((with_reducible apply thenQ_n)) | ((with_reducible apply thenQ_r)) | ((with_reducible apply thenQ_e)) | ((with_reducible apply RetQ.one); (exact rfl); (conv => lhs; whnf)) | ((with_reducible apply blockQ_n)) | ((with_reducible apply blockQ_r)) | ((with_reducible apply blockQ_here); (exact rfl)) | ((with_reducible apply blockQ_on); (decide)))
  all_goals
    subst_vars
    generalize hr : Mem.write _ addr x = r
    simp [Mem.write, hvb, Mtr.tick, *] at hr
    try (first | rw [if_pos (by omega)] at hr | rw [if_neg (by omega)] at hr)
    subst hr
    refine ⟨rfl, ⟨?_, ?_, ?_, trivial, hne, by simp [Mtr.blocks], by simpa using hlen, by first | exact h.byt | exact byt_set h.byt hx⟩, ?_⟩
    · simp only [List.length_set, Mtr.val]
      (focus ((repeat (first | assumption | refine Fr.blk (by assumption) ?_ (by first | assumption | (simp; fail_if_success (focus skip)) | (simp; omega) | (refine notinP (by assumption) ?_ ?_ <;> first | assumption | omega | (simp; fail_if_success (focus skip)) | (simp; omega)) | (focus ((repeat' (first | assumption | omega | exact List.not_mem_nil | (refine notinN (by assumption) ?_) | (refine notinC ?_ ?_))); fail_if_success (focus skip)))))); fail_if_success (focus skip)))
    · (focus ((repeat (first | assumption | refine Fr.blk (by assumption) ?_ (by first | assumption | (simp; fail_if_success (focus skip)) | (simp; omega) | (refine notinP (by assumption) ?_ ?_ <;> first | assumption | omega | (simp; fail_if_success (focus skip)) | (simp; omega)) | (focus ((repeat' (first | assumption | omega | exact List.not_mem_nil | (refine notinN (by assumption) ?_) | (refine notinC ?_ ?_))); fail_if_success (focus skip)))))); fail_if_success (focus skip)))
    · trivial
    · (focus ((repeat (first | assumption | exact Fr.refl _ _ | refine Fr.back (by assumption) (by first | exact fun k hk => .inl hk | (intro k hk; simp only [List.mem_cons, List.not_mem_nil, or_false] at hk ⊢ <;> first | omega | (simp [Value.ownBlock] at hk ⊢; omega) | (simp [fp, Mtr.blocks, *]; fail_if_success (focus skip)) | (simp [fp, Mtr.blocks, *]; omega)) | (refine subP (by assumption) ?_ ?_ <;> first | omega | (simp; fail_if_success (focus skip)) | exact fun k hk => .inl hk | (intro k hk; simp at hk ⊢; omega)) | (focus (repeat' (first | exact fun k hk => .inl hk | exact fun k hk => .inl (List.mem_cons_of_mem _ hk) | exact fun k hk => .inl (List.mem_cons_of_mem _ (List.mem_cons_of_mem _ hk)) | (with_reducible refine subC ?_ ?_) | (right; omega) | (left; simp; fail_if_success (focus skip)) | (left; simp [fp]; fail_if_success (focus skip)))); fail_if_success (focus skip))) ?_)); fail_if_success (focus skip)))

theorem write_calls {g s : Nat} {M : Mem} (addr x : Int) (w : World) (h : IsMem w g s M) (ha : -9223372036854775808 ≤ addr ∧ addr ≤ 9223372036854775807) (hx : 0 ≤ x ∧ x ≤ 255) :
    Calls Try.prog 86 #[.pointer (some ⟨g, 0, none⟩), .int .i64 addr, .int .u8 x] w (WPost w g s M (M.write addr x)) := by
  cases hvb : M.valid addr 1 with
  | false => exact write_no addr x w h ha hvb
  | true =>
    obtain ⟨b, off, armed, left, mtr, wr⟩ := M
    cases mtr with
    | off => exact write_off addr x w h ha hx hvb
     | down c n => exact h.mok.elim
     | up c d n k => exact h.mok.elim

/-- A slice of bytes that is only read: its block is none of these. -/
def RdB (w : World) (S : List Nat) (v : Value) (l : List Int) : Prop :=
  ∃ a c, v = .slice a l.length c ∧ l.length ≤ c ∧ (∀ x ∈ l, 0 ≤ x ∧ x < 256) ∧ (l = [] ∨ ∃ b o, a = some ⟨b, o, none⟩ ∧ b ∉ S ∧ b < w.heap.size ∧ ∀ j, j < l.length → w.cell? ⟨b, o + j, none⟩ = some (.int .u8 (l.getD j 0)))

theorem cell_fr {w w' : World} {S : List Nat} {b o : Nat} (hf : Fr w w' S) (hb : b < w.heap.size) (hS : b ∉ S) : w'.cell? ⟨b, o, none⟩ = w.cell? ⟨b, o, none⟩ :=
  World.cell?_of_block (w := w) (hf.block b hb hS)

theorem RdB.kept {w w' : World} {S S' : List Nat} {v : Value} {l : List Int} (h : RdB w S v l) (hf : Fr w w' S') (hS : ∀ k, k ∈ S' → k ∈ S) : RdB w' S v l := by
  obtain ⟨a, c, h1, h2, h0, h3⟩ := h
  refine ⟨a, c, h1, h2, h0, ?_⟩
  rcases h3 with h3 | ⟨b, o, h4, h5, h6, h7⟩
  · exact .inl h3
  · exact .inr ⟨b, o, h4, h5, Nat.lt_of_lt_of_le h6 hf.size, fun j hj => (cell_fr hf h6 (fun hm => h5 (hS _ hm))).trans (h7 j hj)⟩

theorem RdB.kk {w w' : World} {S : List Nat} {v : Value} {l : List Int} (h : RdB w S v l) (hf : Fr w w' S) : RdB w' S v l := by
  obtain ⟨a, c, h1, h2, h0, h3⟩ := h
  refine ⟨a, c, h1, h2, h0, ?_⟩
  rcases h3 with h3 | ⟨b, o, h4, h5, h6, h7⟩
  · exact .inl h3
  · exact .inr ⟨b, o, h4, h5, Nat.lt_of_lt_of_le h6 hf.size, fun j hj => (cell_fr hf h6 h5).trans (h7 j hj)⟩
theorem RdB.mono {w : World} {S S' : List Nat} {v : Value} {l : List Int} (h : RdB w S v l) (hs : ∀ k, k ∈ S' → k ∈ S) : RdB w S' v l := by
  obtain ⟨a, c, h1, h2, h0, h3⟩ := h
  refine ⟨a, c, h1, h2, h0, h3.imp (fun h => h) ?_⟩
  rintro ⟨b, o, h4, h5, h6⟩
  exact ⟨b, o, h4, fun hm => h5 (hs b hm), h6⟩
theorem RdB.k {w w' : World} {S S' : List Nat} {v : Value} {l : List Int} (h : RdB w S v l) (hf : Fr w w' S := by (focus ((repeat (first | assumption | exact Fr.refl _ _ | refine Fr.back (by assumption) (by first | exact fun k hk => .inl hk | (intro k hk; simp only [List.mem_cons, List.not_mem_nil, or_false] at hk ⊢ <;> first | omega | (simp [Value.ownBlock] at hk ⊢; omega) | (simp [fp, Mtr.blocks, *]; fail_if_success (focus skip)) | (simp [fp, Mtr.blocks, *]; omega)) | (refine subP (by assumption) ?_ ?_ <;> first | omega | (simp; fail_if_success (focus skip)) | exact fun k hk => .inl hk | (intro k hk; simp at hk ⊢; omega)) | (focus (repeat' (first | exact fun k hk => .inl hk | exact fun k hk => .inl (List.mem_cons_of_mem _ hk) | exact fun k hk => .inl (List.mem_cons_of_mem _ (List.mem_cons_of_mem _ hk)) | (with_reducible refine subC ?_ ?_) | (right; omega) | (left; simp; fail_if_success (focus skip)) | (left; simp [fp]; fail_if_success (focus skip)))); fail_if_success (focus skip))) ?_)); fail_if_success (focus skip)))) (hs : ∀ k, k ∈ S' → k ∈ S := by first | exact fun _ h => h | (simp; fail_if_success (focus skip)) | (simp +contextual; fail_if_success (focus skip))) : RdB w' S' v l := (h.kk hf).mono hs
/-- New blocks are none of its own. -/
theorem RdB.g {w w' : World} {S : List Nat} {v : Value} {l : List Int} (T : List Nat) (h : RdB w S v l) (hT : ∀ k, k ∈ T → w.heap.size ≤ k := by (simp; try omega)) (hf : Fr w w' S := by (focus ((repeat (first | assumption | exact Fr.refl _ _ | refine Fr.back (by assumption) (by first | exact fun k hk => .inl hk | (intro k hk; simp only [List.mem_cons, List.not_mem_nil, or_false] at hk ⊢ <;> first | omega | (simp [Value.ownBlock] at hk ⊢; omega) | (simp [fp, Mtr.blocks, *]; fail_if_success (focus skip)) | (simp [fp, Mtr.blocks, *]; omega)) | (refine subP (by assumption) ?_ ?_ <;> first | omega | (simp; fail_if_success (focus skip)) | exact fun k hk => .inl hk | (intro k hk; simp at hk ⊢; omega)) | (focus (repeat' (first | exact fun k hk => .inl hk | exact fun k hk => .inl (List.mem_cons_of_mem _ hk) | exact fun k hk => .inl (List.mem_cons_of_mem _ (List.mem_cons_of_mem _ hk)) | (with_reducible refine subC ?_ ?_) | (right; omega) | (left; simp; fail_if_success (focus skip)) | (left; simp [fp]; fail_if_success (focus skip)))); fail_if_success (focus skip))) ?_)); fail_if_success (focus skip)))) : RdB w' (T ++ S) v l := by
  obtain ⟨a, c, h1, h2, h0, h3⟩ := h
  refine ⟨a, c, h1, h2, h0, ?_⟩
  rcases h3 with h3 | ⟨b, o, h4, h5, h6, h7⟩
  · exact .inl h3
  · refine .inr ⟨b, o, h4, fun hm => ?_, Nat.lt_of_lt_of_le h6 hf.size, fun j hj => (cell_fr hf h6 h5).trans (h7 j hj)⟩
    rcases List.mem_append.1 hm with hm | hm
    · have := hT b hm; omega
    · exact h5 hm

theorem RdB.cellA {w w' : World} {S : List Nat} {b o n c : Nat} {l : List Int} (h : RdB w S (.slice (some ⟨b, o, none⟩) n c) l) {j : Nat} (hj : j < l.length) (hf : Fr w w' S := by (focus ((repeat (first | assumption | exact Fr.refl _ _ | refine Fr.back (by assumption) (by first | exact fun k hk => .inl hk | (intro k hk; simp only [List.mem_cons, List.not_mem_nil, or_false] at hk ⊢ <;> first | omega | (simp [Value.ownBlock] at hk ⊢; omega) | (simp [fp, Mtr.blocks, *]; fail_if_success (focus skip)) | (simp [fp, Mtr.blocks, *]; omega)) | (refine subP (by assumption) ?_ ?_ <;> first | omega | (simp; fail_if_success (focus skip)) | exact fun k hk => .inl hk | (intro k hk; simp at hk ⊢; omega)) | (focus (repeat' (first | exact fun k hk => .inl hk | exact fun k hk => .inl (List.mem_cons_of_mem _ hk) | exact fun k hk => .inl (List.mem_cons_of_mem _ (List.mem_cons_of_mem _ hk)) | (with_reducible refine subC ?_ ?_) | (right; omega) | (left; simp; fail_if_success (focus skip)) | (left; simp [fp]; fail_if_success (focus skip)))); fail_if_success (focus skip))) ?_)); fail_if_success (focus skip)))) : w'.cell? ⟨b, o + j, none⟩ = some (.int .u8 (l.getD j 0)) := by
  obtain ⟨a, c', h1, h2, h0, h3⟩ := h.kk hf
  rcases h3 with rfl | ⟨b', o', h4, _, _, h7⟩
  · simp at hj
  · cases h1; cases h4; exact h7 j hj

/-- The writes of a longer write. -/
def Mem.writeN (M : Mem) (addr : Int) : List Int → Bool × Mem
  | [] => (true, M)
  | x :: xs => if (M.write addr x).1 = true then (M.write addr x).2.writeN (addr + 1) xs else (false, (M.write addr x).2)

def Mem.writeBytes (M : Mem) (addr : Int) (l : List Int) : Bool × Mem :=
  if M.valid addr l.length = true then
    (if (M.writeN addr l).1 = true then (!(M.writeN addr l).2.off, (M.writeN addr l).2) else (M.writeN addr l))
  else (false, M)

theorem Mem.tick_blocks (m : Mtr) : m.tick.2.blocks = m.blocks := by cases m <;> rfl
theorem Mem.write_blocks (M : Mem) (addr x : Int) : (M.write addr x).2.mtr.blocks = M.mtr.blocks := by
  unfold Mem.write
  split <;> try rfl
  split <;> try rfl
  split <;> exact Mem.tick_blocks _
theorem Mem.write_len (M : Mem) (addr x : Int) : (M.write addr x).2.b.length = M.b.length := by
  unfold Mem.write
  split <;> try rfl
  split <;> try rfl
  split <;> simp
theorem Mem.writeN_len (l : List Int) : ∀ (M : Mem) (addr : Int), (M.writeN addr l).2.b.length = M.b.length := by
  induction l with
  | nil => intro M addr; rfl
  | cons x xs ih =>
    intro M addr
    simp only [Mem.writeN]
    split
    · rw [ih, Mem.write_len]
    · exact Mem.write_len _ _ _
theorem Mem.writeN_blocks (l : List Int) : ∀ (M : Mem) (addr : Int), (M.writeN addr l).2.mtr.blocks = M.mtr.blocks := by
  induction l with
  | nil => intro M addr; rfl
  | cons x xs ih =>
    intro M addr
    simp only [Mem.writeN]
    split
    · rw [ih, Mem.write_blocks]
    · exact Mem.write_blocks _ _ _

theorem writeBytes_calls {g s : Nat} {M : Mem} (addr : Int) (v : Value) (l : List Int) (w : World) (h : IsMem w g s M) (ha : -9223372036854775808 ≤ addr ∧ addr ≤ 9223372036854775807) (hl : RdB w (fp g s M) v l) (hln : l.length ≤ 4611686018427387904) :
    Calls Try.prog 59 #[.pointer (some ⟨g, 0, none⟩), .int .i64 addr, v] w (WPost w g s M (M.writeBytes addr l)) := by
  obtain ⟨a, c, rfl, hlc, hby, hcell⟩ := hl
  have hv := valid_calls addr l.length w h ha (by omega)
  have hg := h.hg
  have hn := h.len
  cases hvb : M.valid addr l.length with
  | false =>
    rw [hvb] at hv
    refine calls_Wp (args := [_, _, _]) Try.func59 rfl Try.ntmps59 (by simp) ?_
    repeat' (first | ((with_reducible show Calls _ _ _ _ _); first | (refine hv.mono ?_; rintro e w' ⟨rfl, rfl⟩; refine ⟨_, rfl, ?_⟩)) | ((with_reducible show Wo _ _ _ _ _ _ _ _); first | (refine WoA.step ?_) | ((with_reducible apply Wo.nil)) | ((with_reducible apply Wo.step0)) | (refine WoA.list ?_)) | ((with_reducible show Ox _ _ _ _ _); first | (refine OxA.move ?_) | (refine OxA.nilCheck ?_) | (refine OxA.fieldAddr0 ?_) | (refine OxA.fieldAddrN ?_) | (refine OxA.fieldAddr ?_) | (refine OxA.load ?_) | (refine OxA.assign ?_) | (refine OxA.not ?_) | (refine OxA.add' ?_) | (refine OxA.add ?_) | (refine OxA.lss ?_) | (refine OxA.loadAggB ?_) | (refine OxA.len ?_) | (refine OxA.call3 ?_) | (refine OxA.indexAddr1 ?_) | ((with_reducible apply Ox.indexAddrN); (exact rfl); (exact rfl); (omega); (omega); (first | (conv => lhs; simp only [Nat.zero_add, Int.toNat_natCast]) | exact rfl)) | (refine OxA.indexAddr ?_) | (refine OxA.lenS ?_)) | ((with_reducible show Wp _ _ _ _ _ _ _); first | ((with_reducible apply Wp.seq)) | ((with_reducible apply Wp.region)) | ((with_reducible apply Wp.skip)) | ((with_reducible apply Wp.ret)) | (refine WpA.condT ?_) | (refine WpA.condF ?_) | (refine WpA.condTo ?_) | (refine WpA.condFo ?_) | ((with_reducible apply Wp.cond); (exact rfl); all_goals (intro hb; (have hb0 := hb; try simp only [decide_eq_true_eq, decide_eq_false_iff_not, Bool.not_eq_true', Bool.not_eq_false', Int.not_lt, Int.not_le, ne_eq, Decidable.not_not] at hb0); (try (exfalso; first | contradiction | omega)))) | ((with_reducible apply Wp.block)) | ((with_reducible apply Wp.exit)) | ((with_reducible apply Wp.label))) | ((with_reducible apply thenQ_n)) | ((with_reducible apply thenQ_r)) | ((with_reducible apply thenQ_e)) | ((with_reducible apply RetQ.one); (exact rfl); (conv => lhs; whnf)) | ((with_reducible apply blockQ_n)) | ((with_reducible apply blockQ_r)) | ((with_reducible apply blockQ_here); (exact rfl)) | ((with_reducible apply blockQ_on); (decide)))
    have e : M.writeBytes addr l = (false, M) := by simp [Mem.writeBytes, hvb]
    rw [e]
    exact ⟨rfl, h, Fr.refl _ _⟩
  | true =>
    rw [hvb] at hv
    have hva := Mem.valid_iff.1 hvb
    have e : M.writeBytes addr l = (if (M.writeN addr l).1 = true then (!(M.writeN addr l).2.off, (M.writeN addr l).2) else (M.writeN addr l)) := by simp [Mem.writeBytes, hvb]
    rw [e]
    clear e
    refine calls_Wp (args := [_, _, _]) Try.func59 rfl Try.ntmps59 (by simp) ?_
    repeat' (first | ((with_reducible show Calls _ _ _ _ _); first | (refine hv.mono ?_; rintro e w' ⟨rfl, rfl⟩; refine ⟨_, rfl, ?_⟩)) | ((with_reducible show Wo _ _ _ _ _ _ _ _); first | (refine WoA.step ?_) | ((with_reducible apply Wo.nil)) | ((with_reducible apply Wo.step0)) | (refine WoA.list ?_)) | ((with_reducible show Ox _ _ _ _ _); first | (refine OxA.move ?_) | (refine OxA.nilCheck ?_) | (refine OxA.fieldAddr0 ?_) | (refine OxA.fieldAddrN ?_) | (refine OxA.fieldAddr ?_) | (refine OxA.load ?_) | (refine OxA.assign ?_) | (refine OxA.not ?_) | (refine OxA.add' ?_) | (refine OxA.add ?_) | (refine OxA.lss ?_) | (refine OxA.loadAggB ?_) | (refine OxA.len ?_) | (refine OxA.call3 ?_) | (refine OxA.indexAddr1 ?_) | ((with_reducible apply Ox.indexAddrN); (exact rfl); (exact rfl); (omega); (omega); (first | (conv => lhs; simp only [Nat.zero_add, Int.toNat_natCast]) | exact rfl)) | (refine OxA.indexAddr ?_) | (refine OxA.lenS ?_)) | ((with_reducible show Wp _ _ _ _ _ _ _); first | ((with_reducible apply Wp.seq)) | ((with_reducible apply Wp.region)) | ((with_reducible apply Wp.skip)) | ((with_reducible apply Wp.ret)) | (refine WpA.condT ?_) | (refine WpA.condF ?_) | (refine WpA.condTo ?_) | (refine WpA.condFo ?_) | ((with_reducible apply Wp.cond); (exact rfl); all_goals (intro hb; (have hb0 := hb; try simp only [decide_eq_true_eq, decide_eq_false_iff_not, Bool.not_eq_true', Bool.not_eq_false', Int.not_lt, Int.not_le, ne_eq, Decidable.not_not] at hb0); (try (exfalso; first | contradiction | omega)))) | ((with_reducible apply Wp.block)) | ((with_reducible apply Wp.exit)) | ((with_reducible apply Wp.label))) | ((with_reducible apply thenQ_n)) | ((with_reducible apply thenQ_r)) | ((with_reducible apply thenQ_e)) | ((with_reducible apply RetQ.one); (exact rfl); (conv => lhs; whnf)) | ((with_reducible apply blockQ_n)) | ((with_reducible apply blockQ_r)) | ((with_reducible apply blockQ_here); (exact rfl)) | ((with_reducible apply blockQ_on); (decide)))
    refine Wp.loop (fun m ρ w1 => ∃ (k : Nat) (M1 : Mem), m = l.length - k ∧ k ≤ l.length ∧ ρ 0 = .pointer (some ⟨g, 0, none⟩) ∧ ρ 1 = .int .i64 addr ∧ ρ 15 = .slice a l.length c ∧ ρ 16 = .int .i64 l.length ∧ ρ 17 = .int .i64 k ∧
      IsMem w1 g s M1 ∧ Fr w w1 (fp g s M) ∧ M1.mtr.blocks = M.mtr.blocks ∧ M.writeN addr l = M1.writeN (addr + k) (l.drop k) ∧ M1.b.length = M.b.length) l.length ⟨0, M, rfl, Nat.zero_le _, rfl, rfl, rfl, rfl, rfl, h, Fr.refl _ _, rfl, by simp, rfl⟩ ?_
    rintro m ρ w1 ⟨k, M1, rfl, hk, h0, h1, h15, h16, h17, hM1, hF, hbl, hwr, hl1⟩
    refine Wp.keep (t := 0) h0 (Wp.keep (t := 1) h1 (Wp.keep (t := 15) h15 (Wp.keep (t := 16) h16 (Wp.keep (t := 17) h17 (?_)))))
    have hg1 := hM1.hg
    rw [hwr]
    by_cases hlt : k < l.length
    · rcases hcell with rfl | ⟨b, o, rfl, hbS, hbw, hcell⟩
      · simp at hlt
      have hc : w1.cell? ⟨b, o + k, none⟩ = some (.int .u8 (l.getD k 0)) := (cell_fr hF hbw hbS).trans (hcell k hlt)
      have hx : 0 ≤ l.getD k 0 ∧ l.getD k 0 ≤ 255 := by
        have := hby (l.getD k 0) (by rw [List.getD_eq_getElem?_getD, List.getElem?_eq_getElem hlt]; exact List.getElem_mem _)
        omega
      have hd : l.drop k = l.getD k 0 :: l.drop (k + 1) := by rw [List.drop_eq_getElem_cons hlt, List.getD_eq_getElem?_getD, List.getElem?_eq_getElem hlt]; rfl
      rw [hd]
      repeat' (first | ((with_reducible show Calls _ _ _ _ _); first | (refine (write_calls _ _ _ hM1 (by omega) hx).mono ?_; rintro e w2 ⟨rfl, hM2, hF2⟩; refine ⟨_, rfl, ?_⟩)) | ((with_reducible show Wo _ _ _ _ _ _ _ _); first | (refine WoA.step ?_) | ((with_reducible apply Wo.nil)) | ((with_reducible apply Wo.step0)) | (refine WoA.list ?_)) | ((with_reducible show Ox _ _ _ _ _); first | (refine OxA.move ?_) | (refine OxA.nilCheck ?_) | (refine OxA.fieldAddr0 ?_) | (refine OxA.fieldAddrN ?_) | (refine OxA.fieldAddr ?_) | (refine OxA.load ?_) | (refine OxA.assign ?_) | (refine OxA.not ?_) | (refine OxA.add' ?_) | (refine OxA.add ?_) | (refine OxA.lss ?_) | (refine OxA.loadAggB ?_) | (refine OxA.len ?_) | (refine OxA.call3 ?_) | (refine OxA.indexAddr1 ?_) | ((with_reducible apply Ox.indexAddrN); (exact rfl); (exact rfl); (omega); (omega); (first | (conv => lhs; simp only [Nat.zero_add, Int.toNat_natCast]) | exact rfl)) | (refine OxA.indexAddr ?_) | (refine OxA.lenS ?_)) | ((with_reducible show Wp _ _ _ _ _ _ _); first | ((with_reducible apply Wp.seq)) | ((with_reducible apply Wp.region)) | ((with_reducible apply Wp.skip)) | ((with_reducible apply Wp.ret)) | (refine WpA.condT ?_) | (refine WpA.condF ?_) | (refine WpA.condTo ?_) | (refine WpA.condFo ?_) | ((with_reducible apply Wp.cond); (exact rfl); all_goals (intro hb; (have hb0 := hb; try simp only [decide_eq_true_eq, decide_eq_false_iff_not, Bool.not_eq_true', Bool.not_eq_false', Int.not_lt, Int.not_le, ne_eq, Decidable.not_not] at hb0); (try (exfalso; first | contradiction | omega)))) | ((with_reducible apply Wp.block)) | ((with_reducible apply Wp.exit)) | ((with_reducible apply Wp.label))) | ((with_reducible apply thenQ_n)) | ((with_reducible apply thenQ_r)) | ((with_reducible apply thenQ_e)) | ((with_reducible apply RetQ.one); (exact rfl); (conv => lhs; whnf)) | ((with_reducible apply blockQ_n)) | ((with_reducible apply blockQ_r)) | ((with_reducible apply blockQ_here); (exact rfl)) | ((with_reducible apply blockQ_on); (decide)))
      · have e : M1.writeN (addr + k) (l.getD k 0 :: l.drop (k + 1)) = (false, (M1.write (addr + k) (l.getD k 0)).2) := by simp only [Mem.writeN]; rw [if_neg (by rw [hb0]; simp)]
        rw [e]
        exact ⟨rfl, hM2, hF.trans (by rw [show fp g s M = fp g s M1 from by unfold fp; rw [hbl]]; exact hF2)⟩
      · refine ⟨l.length - (k + 1), by omega, k + 1, _, rfl, by omega, rfl, rfl, rfl, rfl, rfl, hM2, hF.trans (by rw [show fp g s M = fp g s M1 from by unfold fp; rw [hbl]]; exact hF2), (Mem.write_blocks _ _ _).trans hbl, ?_, (Mem.write_len _ _ _).trans hl1⟩
        simp only [Mem.writeN, hb0, if_true]
        rw [Int.natCast_add, Int.natCast_one, Int.add_assoc]
    · obtain rfl : k = l.length := by omega
      repeat' (first | ((with_reducible show Wo _ _ _ _ _ _ _ _); first | (refine WoA.step ?_) | ((with_reducible apply Wo.nil)) | ((with_reducible apply Wo.step0)) | (refine WoA.list ?_)) | ((with_reducible show Ox _ _ _ _ _); first | (refine OxA.move ?_) | (refine OxA.nilCheck ?_) | (refine OxA.fieldAddr0 ?_) | (refine OxA.fieldAddrN ?_) | (refine OxA.fieldAddr ?_) | (refine OxA.load ?_) | (refine OxA.assign ?_) | (refine OxA.not ?_) | (refine OxA.add' ?_) | (refine OxA.add ?_) | (refine OxA.lss ?_) | (refine OxA.loadAggB ?_) | (refine OxA.len ?_) | (refine OxA.call3 ?_) | (refine OxA.indexAddr1 ?_) | ((with_reducible apply Ox.indexAddrN); (exact rfl); (exact rfl); (omega); (omega); (first | (conv => lhs; simp only [Nat.zero_add, Int.toNat_natCast]) | exact rfl)) | (refine OxA.indexAddr ?_) | (refine OxA.lenS ?_)) | ((with_reducible show Wp _ _ _ _ _ _ _); first | ((with_reducible apply Wp.seq)) | ((with_reducible apply Wp.region)) | ((with_reducible apply Wp.skip)) | ((with_reducible apply Wp.ret)) | (refine WpA.condT ?_) | (refine WpA.condF ?_) | (refine WpA.condTo ?_) | (refine WpA.condFo ?_) | ((with_reducible apply Wp.cond); (exact rfl); all_goals (intro hb; (have hb0 := hb; try simp only [decide_eq_true_eq, decide_eq_false_iff_not, Bool.not_eq_true', Bool.not_eq_false', Int.not_lt, Int.not_le, ne_eq, Decidable.not_not] at hb0); (try (exfalso; first | contradiction | omega)))) | ((with_reducible apply Wp.block)) | ((with_reducible apply Wp.exit)) | ((with_reducible apply Wp.label))) | ((with_reducible apply thenQ_n)) | ((with_reducible apply thenQ_r)) | ((with_reducible apply thenQ_e)) | ((with_reducible apply RetQ.one); (exact rfl); (conv => lhs; whnf)) | ((with_reducible apply blockQ_n)) | ((with_reducible apply blockQ_r)) | ((with_reducible apply blockQ_here); (exact rfl)) | ((with_reducible apply blockQ_on); (decide)))
      simp only [List.drop_length, Mem.writeN, if_true]
      exact ⟨rfl, hM1, hF⟩

end Go.Proofs.Ythpdpipcfhodoaa
