/- A small calculus for what code does, over any program: the temporaries are a function, the world a variable; a statement whose order is open is answered by a fact an operation. No condition. -/
import Derived.Test.YthpdpipcfhodoaaBase
import Derived.Orders
import Derived.Lib.Hide
import Derived.RangeFuncWrites
import Derived.TacticsIn
import Derived.OrdersIn
namespace Go.Proofs.Ythpdpipcfhodoaa
open Go.RowKit

abbrev Env := Nat → Value
def upd (ρ : Env) (d : Nat) (v : Value) : Env := fun t => match Nat.beq t d with | true => v | false => ρ t
theorem upd_if (ρ : Env) (d : Nat) (v : Value) (t : Nat) : upd ρ d v t = if t = d then v else ρ t := by
  unfold upd
  by_cases e : t = d
  · subst e; simp
  · have : Nat.beq t d = false := by rcases h : Nat.beq t d with _ | _; rfl; exact absurd (Nat.eq_of_beq_eq_true h) e
    rw [if_neg e, this]
def putE (ρ : Env) (o : Option Nat) (v : Value) : Env := match o with | some d => upd ρ d v | none => ρ
def ev (ρ : Env) : Operand → Value
  | .tmp t => ρ t
  | .const v => v
  | .global g => .pointer (some ⟨g, 0, none⟩)
  | .func f => .func (.func f) #[] #[]
def envOf (a : Act) : Env := fun t => a.tmps.getD t undef
theorem eval_ev (a : Act) : a.eval = ev (envOf a) := by funext x; cases x <;> rfl

structure OkA (n : Nat) (ds : List Deferred) (ρ : Env) (a : Act) : Prop where
  size : a.tmps.size = n
  defers : a.defers = ds
  env : envOf a = ρ

def dstOk (n : Nat) (d : Option Nat) : Bool := match d with | some d => decide (d < n) | none => true

theorem OkA.put {n : Nat} {ds : List Deferred} {ρ : Env} {a : Act} (h : OkA n ds ρ a) {dst : Option Nat} (hd : dstOk n dst = true) (v : Value) : OkA n ds (putE ρ dst v) (a.put dst v) := by
  obtain ⟨hs, hdf, he⟩ := h
  cases dst with
  | none => exact ⟨hs, hdf, he⟩
  | some d =>
    refine ⟨by simp [Act.put, hs], hdf, ?_⟩
    funext t
    simp only [dstOk, decide_eq_true_eq] at hd
    simp only [putE, upd_if, ← he, envOf, Act.put, Array.getD_eq_getD_getElem?, Array.getElem?_setIfInBounds]
    by_cases e : t = d
    · subst e; simp [hs, hd]
    · rw [if_neg (Ne.symm e), if_neg e]

/-- The widest fence, within a round of the loop `r` or in none. -/
def wd (r : Option Nat) : Fence := { fn := fun _ => True, depth := none, alive := false, round := r }
theorem wd_none : wd none = Fence.wide := rfl
theorem callsIn_wd {r : Option Nat} {n : Nat} {P : Program} {f : FuncId} {args : Array Value} {w : World} {R : Ending → World → Prop} (h : Calls P f args w R) : CallsIn (wd r) n P f args w R :=
  ⟨trivial, fun cs _ => (callsIn_wide (n := n).2 h).2 cs (room_wide _)⟩

section
variable {r : Option Nat} {P : Program} {n : Nat}

def Wp (r : Option Nat) (P : Program) (n : Nat) (c : Code) (ρ : Env) (w : World) (Q : Exit → Env → World → Prop) : Prop :=
  ∀ ds a, OkA n ds ρ a → c.wpIn (wd r) 0 P (fun e a' w' => ∃ ρ', OkA n ds ρ' a' ∧ Q e ρ' w') a w

def Wo (r : Option Nat) (P : Program) (n : Nat) (ops : Array Oper) (rest : List Oper) (ρ : Env) (w : World) (K : Env → World → Prop) : Prop :=
  ∀ ds a (Q' : Exit → Act → World → Prop), OkA n ds ρ a → (∀ ρ' a' w', OkA n ds ρ' a' → K ρ' w' → Q' .normal a' w') → wpListIn (wd r) 0 P ops Q' rest a w

def Ox (P : Program) (o : Oper) (ρ : Env) (w : World) (K : Value → World → Prop) : Prop :=
  match (execOp (ev ρ) o).run P w with
  | .ok (.value v) w' => K v w'
  | .ok .skip w' => K undef w'
  | .ok (.enter f args) w' => Calls P f args w' fun e w'' => ∃ v, e = .returned v ∧ K v w''
  | .ok (.round l f tmps assign body) w' => RoundIn (wd none) 0 P l f tmps assign body w' fun e w'' => ∃ v, e = .returned v ∧ K v w''
  | _ => False

theorem Ox.noDefer {o : Oper} {ρ : Env} {w : World} {K : Value → World → Prop} (h : Ox P o ρ w K) : ∀ c, o.op ≠ .defer c := by
  intro c hc
  unfold Ox execOp at h
  rw [hc] at h
  simp only [Sem.run_bind] at h
  generalize (resolve (ev ρ) c o.type).run P w = x at h
  cases x <;> simp [Result.andThen] at h

theorem Ox.wp {o : Oper} {ρ : Env} {w : World} {K : Value → World → Prop} {ds : List Deferred} {a : Act} (h : Ox P o ρ w K) (ha : OkA n ds ρ a) (next : Act → World → Prop) (Q : Exit → Act → World → Prop)
    (hn : ∀ v w', K v w' → next (a.put o.dst v) w') : o.wpIn (wd r) 0 P a w next Q := by
  refine ⟨fun _ _ => trivial, ?_⟩
  rw [Oper.semAt_eq _ _ _ h.noDefer, eval_ev, ha.env]
  unfold Ox at h
  generalize (execOp (ev ρ) o).run P w = x at h ⊢
  cases x with
  | halt x w' => exact h.elim
  | ok x w' =>
    cases x <;> first | exact h.elim | skip
    · exact hn _ _ h
    · exact hn _ _ h
    · exact ⟨fun hh => by simp [wd] at hh, CallsIn.mono (callsIn_wd h) fun e w'' ⟨v, he, hv⟩ => by subst he; exact hn _ _ hv⟩
    · exact ⟨fun hh => by simp [wd] at hh, RoundIn.mono (F := wd r) h fun e w'' ⟨v, he, hv⟩ => by subst he; exact hn _ _ hv⟩

theorem Ox.mono {o : Oper} {ρ : Env} {w : World} {K K' : Value → World → Prop} (h : Ox P o ρ w K) (hk : ∀ v w', K v w' → K' v w') : Ox P o ρ w K' := by
  unfold Ox at h ⊢
  generalize (execOp (ev ρ) o).run P w = r at h ⊢
  cases r with
  | halt x w' => exact h.elim
  | ok x w' =>
    cases x <;> first | exact h.elim | skip
    · exact hk _ _ h
    · exact hk _ _ h
    · exact h.mono fun e w'' ⟨v, he, hv⟩ => ⟨v, he, hk _ _ hv⟩
    · exact RoundIn.mono h fun e w'' ⟨v, he, hv⟩ => ⟨v, he, hk _ _ hv⟩

theorem Wo.list {ops : Array Oper} {a b l' : List Oper} {ρ : Env} {w : World} {K : Env → World → Prop} (e : a ++ b = l') (h : Wo r P n ops l' ρ w K) : Wo r P n ops (a ++ b) ρ w K := e ▸ h
theorem Wo.nil {ops : Array Oper} {ρ : Env} {w : World} {K : Env → World → Prop} (h : K ρ w) : Wo r P n ops [] ρ w K :=
  fun _ a _ ha hq => hq ρ a w ha h

theorem Wo.step {ops : Array Oper} {rest : List Oper} {ρ : Env} {w : World} {K : Env → World → Prop} {d : Nat} {op : Op} {ty : TypeId} {pos : String} {aft : Array Edge} (hd : Nat.blt d n = true)
    (h : Ox P ⟨some d, op, ty, pos, aft, none⟩ ρ w fun v w' => Wo r P n ops rest (upd ρ d v) w' K) : Wo r P n ops (⟨some d, op, ty, pos, aft, none⟩ :: rest) ρ w K := by
  intro ds a Q' ha hq
  unfold wpListIn
  rw [if_pos (by simp [Region.wanted])]
  exact (h.wp ha _ _ fun v w' hv => hv _ _ _ (ha.put (dst := some d) (by simpa [dstOk, Nat.blt_eq] using hd) v) hq)
theorem Wo.step0 {ops : Array Oper} {rest : List Oper} {ρ : Env} {w : World} {K : Env → World → Prop} {op : Op} {ty : TypeId} {pos : String} {aft : Array Edge}
    (h : Ox P ⟨none, op, ty, pos, aft, none⟩ ρ w fun _ w' => Wo r P n ops rest ρ w' K) : Wo r P n ops (⟨none, op, ty, pos, aft, none⟩ :: rest) ρ w K := by
  intro ds a Q' ha hq
  unfold wpListIn
  rw [if_pos (by simp [Region.wanted])]
  exact (h.wp ha _ _ fun v w' hv => hv _ _ _ (ha.put (dst := none) rfl v) hq)

theorem yielded_env {ops : Array Oper} {ds : List Deferred} {ρ : Env} {a : Act} {j d : Nat} {b : Bool} (ha : OkA n ds ρ a) (hj : (ops[j]?).bind (·.dst) = some d) (hb : ρ d = .bool b) : yielded ops a.tmps j = some b := by
  have h1 : a.tmps.getD d undef = .bool b := by rw [← hb, ← ha.env]; rfl
  have h2 : a.tmps[d]? = some (.bool b) := by
    rw [Array.getD_eq_getD_getElem?] at h1
    cases h : a.tmps[d]? with
    | none => rw [h] at h1; simp [undef] at h1
    | some v => rw [h] at h1; simpa using h1
  simp [yielded, hj, h2]

theorem Wo.yes {ops : Array Oper} {rest : List Oper} {ρ : Env} {w : World} {K : Env → World → Prop} {j s d : Nat} {b t : Bool} {op : Op} {ty : TypeId} {pos : String} {aft : Array Edge}
    (hj : (ops[j]?).bind (·.dst) = some s) (hb : ρ s = .bool t) (ht : t = b) (hd : Nat.blt d n = true)
    (h : Ox P ⟨some d, op, ty, pos, aft, some (j, b)⟩ ρ w fun v w' => Wo r P n ops rest (upd ρ d v) w' K) : Wo r P n ops (⟨some d, op, ty, pos, aft, some (j, b)⟩ :: rest) ρ w K := by
  subst ht
  intro ds a Q' ha hq
  unfold wpListIn
  rw [if_pos (by simp [Region.wanted, yielded_env ha hj hb])]
  exact (h.wp ha _ _ fun v w' hv => hv _ _ _ (ha.put (dst := some d) (by simpa [dstOk, Nat.blt_eq] using hd) v) hq)

theorem Wo.no {ops : Array Oper} {rest : List Oper} {ρ : Env} {w : World} {K : Env → World → Prop} {j s d : Nat} {b t : Bool} {op : Op} {ty : TypeId} {pos : String} {aft : Array Edge}
    (hj : (ops[j]?).bind (·.dst) = some s) (hb : ρ s = .bool t) (ht : t = !b) (hd : Nat.blt d n = true)
    (h : Wo r P n ops rest (upd ρ d undef) w K) : Wo r P n ops (⟨some d, op, ty, pos, aft, some (j, b)⟩ :: rest) ρ w K := by
  subst ht
  intro ds a Q' ha hq
  unfold wpListIn
  rw [if_neg (by simp only [Region.wanted, yielded_env ha hj hb]; cases b <;> simp)]
  exact ⟨fun _ _ => trivial, h _ _ _ (ha.put (dst := some d) (by simpa [dstOk, Nat.blt_eq] using hd) undef) hq⟩

theorem yielded_undef {ops : Array Oper} {ds : List Deferred} {ρ : Env} {a : Act} {j d : Nat} (ha : OkA n ds ρ a) (hj : (ops[j]?).bind (·.dst) = some d) (hb : ρ d = undef) : yielded ops a.tmps j = none := by
  have h1 : a.tmps.getD d undef = undef := by have := congrFun ha.env d; rw [hb] at this; exact this
  unfold yielded
  rw [hj]
  simp only [Option.bind_some]
  cases h : a.tmps[d]? with
  | none => rfl
  | some v =>
    rw [Array.getD_eq_getD_getElem?, h] at h1
    simp only [Option.getD_some] at h1
    rw [h1]; rfl
theorem Wo.noU {ops : Array Oper} {rest : List Oper} {ρ : Env} {w : World} {K : Env → World → Prop} {j s d : Nat} {b : Bool} {op : Op} {ty : TypeId} {pos : String} {aft : Array Edge}
    (hj : (ops[j]?).bind (·.dst) = some s) (hb : ρ s = undef) (hd : Nat.blt d n = true)
    (h : Wo r P n ops rest (upd ρ d undef) w K) : Wo r P n ops (⟨some d, op, ty, pos, aft, some (j, b)⟩ :: rest) ρ w K := by
  intro ds a Q' ha hq
  unfold wpListIn
  rw [if_neg (by simp [Region.wanted, yielded_undef ha hj hb])]
  exact ⟨fun _ _ => trivial, h _ _ _ (ha.put (dst := some d) (by simpa [dstOk, Nat.blt_eq] using hd) undef) hq⟩

theorem Wo.part {ops : Array Oper} {o : Oper} {rest : List Oper} {ρ : Env} {w : World} {K : Env → World → Prop} {j d : Nat} {b t : Bool} (_hg : o.guard = some (j, b))
    (_hj : (ops[j]?).bind (·.dst) = some d) (_hb : ρ d = .bool t) (h1 : t = true → Wo r P n ops (o :: rest) ρ w K) (h0 : t = false → Wo r P n ops (o :: rest) ρ w K) : Wo r P n ops (o :: rest) ρ w K := by
  cases t
  · exact h0 rfl
  · exact h1 rfl

theorem Wp.mono {c : Code} {ρ : Env} {w : World} {Q Q' : Exit → Env → World → Prop} (h : Wp r P n c ρ w Q) (hq : ∀ e ρ w, Q e ρ w → Q' e ρ w) : Wp r P n c ρ w Q' :=
  fun ds a ha => Code.wpIn_mono (fun _ _ _ ⟨ρ', h1, h2⟩ => ⟨ρ', h1, hq _ _ _ h2⟩) (h ds a ha)

theorem Wp.region {l : List Oper} {id : Nat} {ρ : Env} {w : World} {Q : Exit → Env → World → Prop} (h : Wo r P n l.toArray l ρ w (fun ρ' w' => Q .normal ρ' w')) :
    Wp r P n (.region id l.toArray false) ρ w Q :=
  fun ds a ha => wpIn_region_lit (h ds a _ ha fun ρ' _ _ h1 h2 => ⟨ρ', h1, h2⟩)

theorem Wp.skip {ρ : Env} {w : World} {Q : Exit → Env → World → Prop} (h : Q .normal ρ w) : Wp r P n .skip ρ w Q := fun _ _ ha => wpIn_skip ⟨ρ, ha, h⟩
theorem Wp.label {l : Nat} {ρ : Env} {w : World} {Q : Exit → Env → World → Prop} (h : Q .normal ρ w) : Wp r P n (.label l) ρ w Q := fun _ _ ha => wpIn_label ⟨ρ, ha, h⟩
theorem Wp.exit {id : Nat} {ρ : Env} {w : World} {Q : Exit → Env → World → Prop} (h : Q (.exit id) ρ w) : Wp r P n (.exit id) ρ w Q := fun _ _ ha => wpIn_exit ⟨ρ, ha, h⟩
theorem Wp.ret {ρ : Env} {w : World} {Q : Exit → Env → World → Prop} (h : Q .ret ρ w) : Wp r P n .ret ρ w Q := fun _ _ ha => wpIn_ret ⟨ρ, ha, h⟩

def thenQ (K : Env → World → Prop) (Q : Exit → Env → World → Prop) : Exit → Env → World → Prop
  | .normal, ρ, w => K ρ w
  | e, ρ, w => Q e ρ w

theorem Wp.seq {x y : Code} {ρ : Env} {w : World} {Q : Exit → Env → World → Prop} (h : Wp r P n x ρ w (thenQ (fun ρ' w' => Wp r P n y ρ' w' Q) Q)) : Wp r P n (.seq x y) ρ w Q :=
  fun ds a ha => wpIn_seq (Code.wpIn_mono (fun e a' w' ⟨ρ', h1, h2⟩ => by
    cases e <;> first | exact h2 ds a' h1 | exact ⟨ρ', h1, h2⟩) (h ds a ha))

theorem upd_self {ρ : Env} {t : Nat} {v : Value} (h : ρ t = v) : upd ρ t v = ρ := by
  funext s
  rw [upd_if]
  split
  · rename_i e; rw [e, h]
  · rfl
/-- What a slot is known to hold, written into the frame. -/
theorem Wp.keep {c : Code} {ρ : Env} {w : World} {Q : Exit → Env → World → Prop} {t : Nat} {v : Value} (hv : ρ t = v) (h : Wp r P n c (upd ρ t v) w Q) : Wp r P n c ρ w Q := by rwa [upd_self hv] at h

/-- The ways meet again: what holds there. -/
theorem Wp.cut {x y : Code} {ρ : Env} {w : World} {Q : Exit → Env → World → Prop} (K : Env → World → Prop) (h : Wp r P n x ρ w (thenQ K Q)) (hy : ∀ ρ' w', K ρ' w' → Wp r P n y ρ' w' Q) : Wp r P n (.seq x y) ρ w Q :=
  Wp.seq (h.mono fun e ρ' w' hq => by cases e <;> first | exact hy _ _ hq | exact hq)

theorem Wp.condT {c : Operand} {x y : Code} {ρ : Env} {w : World} {Q : Exit → Env → World → Prop} {t : Bool} (hc : ev ρ c = .bool t) (ht : t = true) (h : Wp r P n x ρ w Q) : Wp r P n (.cond c x y) ρ w Q :=
  fun ds a ha => wpIn_cond_split (t := t) (by rw [eval_ev, ha.env]; exact hc) (fun _ => h ds a ha) (fun h0 => by rw [ht] at h0; cases h0)
theorem Wp.condF {c : Operand} {x y : Code} {ρ : Env} {w : World} {Q : Exit → Env → World → Prop} {t : Bool} (hc : ev ρ c = .bool t) (ht : t = false) (h : Wp r P n y ρ w Q) : Wp r P n (.cond c x y) ρ w Q :=
  fun ds a ha => wpIn_cond_split (t := t) (by rw [eval_ev, ha.env]; exact hc) (fun h0 => by rw [ht] at h0; cases h0) (fun _ => h ds a ha)
theorem Wp.cond {c : Operand} {x y : Code} {ρ : Env} {w : World} {Q : Exit → Env → World → Prop} {t : Bool} (hc : ev ρ c = .bool t) (h1 : t = true → Wp r P n x ρ w Q) (h0 : t = false → Wp r P n y ρ w Q) :
    Wp r P n (.cond c x y) ρ w Q :=
  fun ds a ha => wpIn_cond_split (t := t) (by rw [eval_ev, ha.env]; exact hc) (fun ht => h1 ht ds a ha) (fun ht => h0 ht ds a ha)

theorem thenQ_n {K : Env → World → Prop} {Q : Exit → Env → World → Prop} {ρ : Env} {w : World} (h : K ρ w) : thenQ K Q .normal ρ w := h
theorem thenQ_r {K : Env → World → Prop} {Q : Exit → Env → World → Prop} {ρ : Env} {w : World} (h : Q .ret ρ w) : thenQ K Q .ret ρ w := h
theorem thenQ_e {K : Env → World → Prop} {Q : Exit → Env → World → Prop} {ρ : Env} {w : World} {id : Nat} (h : Q (.exit id) ρ w) : thenQ K Q (.exit id) ρ w := h

def blockQ (id : Nat) (Q : Exit → Env → World → Prop) : Exit → Env → World → Prop
  | .exit id', ρ, w => if id' = id then Q .normal ρ w else Q (.exit id') ρ w
  | e, ρ, w => Q e ρ w

theorem Wp.block {id : Nat} {c : Code} {ρ : Env} {w : World} {Q : Exit → Env → World → Prop} (h : Wp r P n c ρ w (blockQ id Q)) : Wp r P n (.block id c) ρ w Q :=
  fun ds a ha => wpIn_block (Code.wpIn_mono (fun e a' w' ⟨ρ', h1, h2⟩ => by
    cases e <;> first | exact ⟨ρ', h1, h2⟩ | skip
    rename_i id'
    simp only [blockQ] at h2
    simp only [Exit.inBlock]
    split
    · rename_i e; rw [if_pos e] at h2; exact ⟨ρ', h1, h2⟩
    · rename_i e; rw [if_neg e] at h2; exact ⟨ρ', h1, h2⟩) (h ds a ha))

theorem blockQ_n {id : Nat} {Q : Exit → Env → World → Prop} {ρ : Env} {w : World} (h : Q .normal ρ w) : blockQ id Q .normal ρ w := h
theorem blockQ_r {id : Nat} {Q : Exit → Env → World → Prop} {ρ : Env} {w : World} (h : Q .ret ρ w) : blockQ id Q .ret ρ w := h
theorem blockQ_here {id id' : Nat} {Q : Exit → Env → World → Prop} {ρ : Env} {w : World} (e : id' = id) (h : Q .normal ρ w) : blockQ id Q (.exit id') ρ w := by simpa [blockQ, e] using h
theorem blockQ_on {id id' : Nat} {Q : Exit → Env → World → Prop} {ρ : Env} {w : World} (e : id' ≠ id) (h : Q (.exit id') ρ w) : blockQ id Q (.exit id') ρ w := by simpa [blockQ, e] using h

theorem exists_min {p : Nat → Prop} (h : ∃ m, p m) : ∃ m, p m ∧ ∀ m', p m' → m ≤ m' := by
  obtain ⟨m, hm⟩ := h
  induction m using Nat.strongRecOn with
  | _ m ih =>
    by_cases hx : ∃ k, k < m ∧ p k
    · obtain ⟨k, hk, hp⟩ := hx; exact ih k hk hp
    · exact ⟨m, hm, fun m' h' => by
        rcases Nat.lt_or_ge m' m with h1 | h1
        · exact absurd ⟨m', h1, h'⟩ hx
        · exact h1⟩

/-- A loop: what holds at each round's head, with a number that every round lowers. -/
theorem Wp.loop {c : Code} {ρ : Env} {w : World} {Q : Exit → Env → World → Prop} (I : Nat → Env → World → Prop) (m : Nat) (h0 : I m ρ w)
    (h : ∀ m ρ w, I m ρ w → Wp r P n c ρ w (thenQ (fun ρ' w' => ∃ m', m' < m ∧ I m' ρ' w') Q)) : Wp r P n (.loop c) ρ w Q := by
  intro ds a ha
  classical
  refine wpIn_loop (fun a w => ∃ ρ m, OkA n ds ρ a ∧ I m ρ w) (fun a w => if hx : ∃ m, I m (envOf a) w then (exists_min hx).choose else 0) ⟨ρ, m, ha, h0⟩ ?_
  rintro a w ⟨ρ, m, hok, hI⟩
  have henv := hok.env
  subst henv
  have hex : ∃ m, I m (envOf a) w := ⟨m, hI⟩
  have hmin := (exists_min hex).choose_spec.1
  refine Code.wpIn_mono ?_ (h _ _ w hmin ds a hok)
  rintro e a' w' ⟨ρ', hok', hq⟩
  cases e <;> first | exact ⟨ρ', hok', hq⟩ | skip
  obtain ⟨m', hlt, hI'⟩ := hq
  refine ⟨⟨ρ', m', hok', hI'⟩, ?_⟩
  have henv' := hok'.env
  have hex' : ∃ m, I m (envOf a') w' := ⟨m', by rw [henv']; exact hI'⟩
  simp only [dif_pos hex, dif_pos hex']
  exact Nat.lt_of_le_of_lt ((exists_min hex').choose_spec.2 _ (by rw [henv']; exact hI')) hlt

def ResV (P : Program) (fn : Func) (ρ : Env) (w : World) (v : Value) : Prop := ∀ tmps : Array Value, (fun t => tmps.getD t undef) = ρ → (results fn tmps).run P w = .ok v w

def RetQ (P : Program) (fn : Func) (R : Ending → World → Prop) (e : Exit) (ρ : Env) (w : World) : Prop := (match e with | .normal | .ret => True | _ => False) ∧ ∃ v, ResV P fn ρ w v ∧ R (.returned v) w

def initE (args : List Value) : Env := fun t => args.getD t undef

theorem calls_Wp {f : FuncId} {fn : Func} {c : Code} {args : List Value} {w : World} {R : Ending → World → Prop} (hf : P.funcs[f]? = some fn) (hb : fn.body = some c) (hnt : fn.ntmps = n)
    (hn : (args.length ≤ n)) (h : Wp none P n c (initE args) w (RetQ P fn R)) :
    Calls P f args.toArray w R := by
  subst hnt
  refine calls_of_wp hf hb ?_
  refine Code.wp_mono ?_ ((wpIn_wide (n := 0)).1 (h [] { tmps := args.toArray ++ Array.replicate (fn.ntmps - args.toArray.size) undef, defers := [] } ⟨by simp; omega, rfl, ?_⟩))
  · rintro e a' w' ⟨ρ', ⟨h1, h2, h3⟩, h4, v, h5, h6⟩
    cases e <;> first | exact h4.elim | exact ⟨h2, v, h5 _ h3, h6⟩
  · funext t
    simp only [envOf, initE, Array.getD_eq_getD_getElem?, Array.getElem?_append, List.getD_eq_getElem?_getD, List.size_toArray, List.getElem?_toArray, Array.getElem?_replicate]
    split
    · rfl
    · rename_i hlt
      rw [List.getElem?_eq_none (by omega)]
      split <;> rfl

section
variable {fn : Func} {ρ : Env} {w : World} {R : Ending → World → Prop}
theorem RetQ.of {v : Value} (h : ResV P fn ρ w v) (hR : R (.returned v) w) : RetQ P fn R .ret ρ w := ⟨trivial, v, h, hR⟩
theorem RetQ.end {v : Value} (h : ResV P fn ρ w v) (hR : R (.returned v) w) : RetQ P fn R .normal ρ w := ⟨trivial, v, h, hR⟩
theorem RetQ.one {t : Nat} {v : Value} (h : fn.results = #[.tmp t]) (hv : ρ t = v) (hR : R (.returned v) w) : RetQ P fn R .ret ρ w := by
  subst hv; exact .of (by rintro tmps rfl; exact results_tmp h _ _ _) hR
theorem RetQ.two {t u : Nat} {v v' : Value} (h : fn.results = #[.tmp t, .tmp u]) (hv : ρ t = v) (hv' : ρ u = v') (hR : R (.returned (.tuple #[v, v'])) w) : RetQ P fn R .ret ρ w := by
  subst hv; subst hv'; exact .of (by rintro tmps rfl; exact results_tmp2 h _ _ _) hR
theorem RetQ.three {t u s : Nat} {v v' v'' : Value} (h : fn.results = #[.tmp t, .tmp u, .tmp s]) (hv : ρ t = v) (hv' : ρ u = v') (hv'' : ρ s = v'') (hR : R (.returned (.tuple #[v, v', v''])) w) : RetQ P fn R .ret ρ w := by
  subst hv; subst hv'; subst hv''; exact .of (by rintro tmps rfl; exact results_tmp3 h _ _ _) hR
theorem RetQ.zero (h : fn.results = #[]) (hR : R (.returned (.tuple #[])) w) : RetQ P fn R .ret ρ w := .of (by rintro tmps rfl; exact results_none h _ _ _) hR
theorem RetQ.zeroE (h : fn.results = #[]) (hR : R (.returned (.tuple #[])) w) : RetQ P fn R .normal ρ w := .end (by rintro tmps rfl; exact results_none h _ _ _) hR
end
end

/-! ### A statement whose order is open -/
def rv (d : Option Nat) (v : Value) : Value := match d with | some _ => v | none => undef
def slotv (ρ : Env) (d : Option Nat) : Value := match d with | some d => ρ d | none => undef

def Gx (P : Program) (ops : Array Oper) (o : Oper) (ρ : Env) (w : World) (K : Value → World → Prop) : Prop :=
  match o.guard with
  | none => Ox P o ρ w K
  | some (j, b) => ∃ d, (ops[j]?).bind (·.dst) = some d ∧ ((ρ d = undef ∧ K undef w) ∨ ∃ c, ρ d = .bool c ∧ (if c = b then Ox P o ρ w K else K undef w))

def drawOk (n : Nat) (ops : Array Oper) : Bool :=
  (List.range ops.size).all fun i => match ops[i]? with
    | some o => dstOk n o.dst && o.after.all (fun e => !Region.binds .any e || decide (e.on < i)) &&
        (List.range ops.size).all fun j => j == i || (match ops[j]?, o.dst with | some o', some d => o'.dst != some d | _, _ => true)
    | none => true

structure DrawOk (n : Nat) (ops : Array Oper) : Prop where
  dst : ∀ (i : Nat) (o : Oper), ops[i]? = some o → dstOk n o.dst = true
  dep : ∀ (i : Nat) (o : Oper), ops[i]? = some o → ∀ e ∈ o.after, Region.binds .any e = true → e.on < i
  one : ∀ (i j : Nat) (o o' : Oper) (d : Nat), ops[i]? = some o → ops[j]? = some o' → o.dst = some d → o'.dst = some d → i = j

theorem DrawOk.of {n : Nat} {ops : Array Oper} (h : drawOk n ops = true) : DrawOk n ops := by
  have key : ∀ (i : Nat) (o : Oper), ops[i]? = some o → dstOk n o.dst = true ∧ (∀ e ∈ o.after, Region.binds .any e = true → e.on < i) ∧
      ∀ j, j < ops.size → j = i ∨ (match ops[j]?, o.dst with | some o', some d => o'.dst != some d | _, _ => true) = true := by
    intro i o ho
    have hlt : i < ops.size := (Array.getElem?_eq_some_iff.1 ho).1
    unfold drawOk at h
    rw [List.all_eq_true] at h
    have h1 := h i (List.mem_range.2 hlt)
    simp only [ho] at h1
    rw [Bool.and_eq_true, Bool.and_eq_true] at h1
    obtain ⟨⟨h1, h2⟩, h3⟩ := h1
    refine ⟨h1, ?_, ?_⟩
    · intro e he hb
      rw [Array.all_eq_true_iff_forall_mem] at h2
      have := h2 e he
      simpa [hb] using this
    · intro j hj
      rw [List.all_eq_true] at h3
      have := h3 j (List.mem_range.2 hj)
      rw [Bool.or_eq_true] at this
      exact this.imp (by simp) id
  refine ⟨fun i o ho => (key i o ho).1, fun i o ho => (key i o ho).2.1, ?_⟩
  intro i j o o' d hi hj hd hd'
  rcases (key i o hi).2.2 j (Array.getElem?_eq_some_iff.1 hj).1 with h1 | h1
  · exact h1.symm
  · simp [hj, hd, hd'] at h1

theorem Gx.wpOp {r : Option Nat} {ds : List Deferred} {P : Program} {n : Nat} {ops : Array Oper} {i : Nat} {o : Oper} {ρ : Env} {w : World} {K : Value → World → Prop} {a : Act} {Q : Exit → Act → World → Prop} {K' : Act → World → Prop} (ho : ops[i]? = some o)
    (h : Gx P ops o ρ w K) (ha : OkA n ds ρ a) (hn : ∀ v w', K v w' → K' (a.put o.dst v) w') : wpOpIn (wd r) 0 P ops Q i K' a w := by
  unfold Go.wpOpIn
  simp only [ho]
  unfold Gx at h
  cases hg : o.guard with
  | none =>
    rw [hg] at h
    rw [if_pos (by simp [Region.wanted, hg])]
    exact h.wp ha _ _ hn
  | some g =>
    obtain ⟨j, b⟩ := g
    rw [hg] at h
    obtain ⟨d, hj, ⟨hu, h⟩ | ⟨c, hc, h⟩⟩ := h
    · rw [if_neg (by simp [Region.wanted, hg, yielded_undef ha hj hu])]
      exact ⟨fun _ _ => trivial, hn _ _ h⟩
    have hy := yielded_env ha hj hc
    by_cases e : c = b
    · rw [if_pos e] at h
      rw [if_pos (by simp [Region.wanted, hg, hy, e])]
      exact h.wp ha _ _ hn
    · rw [if_neg e] at h
      rw [if_neg (by simp [Region.wanted, hg, hy, e])]
      exact ⟨fun _ _ => trivial, hn _ _ h⟩

theorem not_listed_lt {n : Nat} {ops : Array Oper} (hok : DrawOk n ops) {listed : Array Bool} (hsz : listed.size = ops.size) (hr : Region.ready .any ops listed = []) :
    ∀ i, i < ops.size → listed.getD i false = true := by
  intro i
  induction i using Nat.strongRecOn with
  | _ i ih =>
    intro hi
    rcases hb : listed.getD i false with _ | _
    · exfalso
      have : i ∈ Region.ready .any ops listed := by
        rw [mem_ready]
        refine ⟨?_, ops[i], Array.getElem?_eq_getElem hi, ?_⟩
        · rw [Array.getD_eq_getD_getElem?, Array.getElem?_eq_getElem (by omega)] at hb ⊢
          simpa using hb
        · intro e he hbd
          have := hok.dep i _ (Array.getElem?_eq_getElem hi) e he hbd
          exact ih e.on this (by omega)
      rw [hr] at this
      simp at this
    · rfl

theorem Wp.drawI {r : Option Nat} {P : Program} {n : Nat} {ops : Array Oper} {id : Nat} {ρ : Env} {w : World} {Q : Exit → Env → World → Prop} (I : (Nat → Prop) → Env → World → Prop)
    (hm : P.follows .mixedOrders = true) (hok : drawOk n ops = true) (h0 : I (fun _ => False) ρ w.drew)
    (hs : ∀ (D : Nat → Prop) (ρ' : Env) (w' : World) (i : Nat) (o : Oper), ops[i]? = some o → ¬ D i → (∀ e ∈ o.after, Region.binds .any e = true → D e.on) → I D ρ' w' →
      Gx P ops o ρ' w' fun v w'' => I (fun j => j = i ∨ D j) (putE ρ' o.dst v) w'')
    (hK : ∀ D ρ' w', (∀ i, i < ops.size → D i) → I D ρ' w' → Q .normal ρ' w') :
    Wp r P n (.region id ops true) ρ w Q := by
  have hO := DrawOk.of hok
  intro ds a ha
  refine wpIn_region_any hm ?_
  have key : ∀ fuel (listed : Array Bool) (a : Act) (ρ' : Env) (w' : World), listed.size = ops.size → OkA n ds ρ' a →
      (((List.range ops.size).filter fun i => !listed.getD i false).length ≤ fuel) → I (fun j => listed.getD j false = true) ρ' w' →
      wpAnyIn (wd r) 0 P .any ops (fun e a' w' => ∃ ρ', OkA n ds ρ' a' ∧ Q e ρ' w') fuel listed a w' := by
    intro fuel
    have fin : ∀ (listed : Array Bool) (a : Act) (ρ' : Env) (w' : World), listed.size = ops.size → OkA n ds ρ' a → Region.ready .any ops listed = [] →
        I (fun j => listed.getD j false = true) ρ' w' → ∃ ρ', OkA n ds ρ' a ∧ Q .normal ρ' w' := by
      intro listed a ρ' w' hsz ha hr hI
      exact ⟨ρ', ha, hK _ ρ' w' (not_listed_lt hO hsz hr) hI⟩
    induction fuel with
    | zero =>
      intro listed a ρ' w' hsz ha hlen hI
      have hr : Region.ready .any ops listed = [] := by
        rw [List.eq_nil_iff_forall_not_mem]
        intro i hi
        rw [mem_ready] at hi
        obtain ⟨h0, o, ho, _⟩ := hi
        have hlt : i < ops.size := (Array.getElem?_eq_some_iff.1 ho).1
        have : i ∈ (List.range ops.size).filter fun i => !listed.getD i false := by
          rw [List.mem_filter]
          refine ⟨List.mem_range.2 hlt, ?_⟩
          rw [Array.getD_eq_getD_getElem?, Array.getElem?_eq_getElem (by omega)] at h0 ⊢
          simpa using h0
        have := List.length_pos_of_mem this
        omega
      exact ⟨hr, fin listed a ρ' w' hsz ha hr hI⟩
    | succ fuel ih =>
      intro listed a ρ' w' hsz ha hlen hI
      refine ⟨fun hr => fin listed a ρ' w' hsz ha hr hI, ?_⟩
      intro i hi
      rw [mem_ready] at hi
      obtain ⟨h0, o, ho, hdep⟩ := hi
      have hlt : i < ops.size := (Array.getElem?_eq_some_iff.1 ho).1
      have hni : ¬ listed.getD i false = true := by
        rw [Array.getD_eq_getD_getElem?, Array.getElem?_eq_getElem (by omega)] at h0 ⊢
        simpa using h0
      have hnew : ∀ j, (listed.setIfInBounds i true).getD j false = true ↔ (j = i ∨ listed.getD j false = true) := by
        intro j
        by_cases e : j = i
        · subst e; simp [hsz, hlt]
        · rw [getD_set_ne false (Ne.symm e)]; simp [e]
      refine Gx.wpOp ho (hs _ ρ' w' i o ho hni hdep hI) ha ?_
      intro v w'' hI'
      refine ih _ _ (putE ρ' o.dst v) w'' (by simpa using hsz) (ha.put (hO.dst i o ho) v) ?_ ?_
      · have hsub : ((List.range ops.size).filter fun j => !(listed.setIfInBounds i true).getD j false).length < ((List.range ops.size).filter fun j => !listed.getD j false).length := by
          have hfe : ((List.range ops.size).filter fun j => !(listed.setIfInBounds i true).getD j false) = ((List.range ops.size).filter fun j => !listed.getD j false).filter fun j => j != i := by
            rw [List.filter_filter]
            refine List.filter_congr fun j _ => ?_
            have := hnew j
            by_cases e : j = i
            · subst e; simp [hsz, hlt]
            · rw [getD_set_ne false (Ne.symm e)]; simp [e]
          rw [hfe]
          refine List.length_filter_lt_length_iff_exists.2 ⟨i, ?_, by simp⟩
          rw [List.mem_filter]
          exact ⟨List.mem_range.2 hlt, by simpa using hni⟩
        omega
      · rw [show (fun j => (listed.setIfInBounds i true).getD j false = true) = (fun j => j = i ∨ listed.getD j false = true) from funext fun j => propext (hnew j)]
        exact hI'
  refine key ops.size _ a ρ w.drew (by simp) ha ?_ ?_
  · have := List.length_filter_le (fun i => !(Array.replicate ops.size false).getD i false) (List.range ops.size); simpa using this
  · rw [show (fun j => (Array.replicate ops.size false).getD j false = true) = (fun _ => False) from funext fun j => propext (by
      simp only [Array.getD_eq_getD_getElem?, Array.getElem?_replicate]; split <;> simp)]
    exact h0

theorem Ox.congr {P : Program} {o : Oper} {ρ ρ' : Env} {w : World} {K : Value → World → Prop} (hs : ∀ cs b, o.op ≠ .select cs b) (h : ∀ t, .tmp t ∈ o.op.operands → ρ t = ρ' t) (hx : Ox P o ρ w K) : Ox P o ρ' w K := by
  have e : execOp (ev ρ) o = execOp (ev ρ') o := execOp_congr o hs fun x hx => by
    cases x with
    | tmp t => exact h t hx
    | _ => rfl
  unfold Ox at hx ⊢
  rw [← e]; exact hx

theorem Gx.mono {P : Program} {ops : Array Oper} {o : Oper} {ρ : Env} {w : World} {K K' : Value → World → Prop} (h : Gx P ops o ρ w K) (hk : ∀ v w', K v w' → K' v w') : Gx P ops o ρ w K' := by
  unfold Gx at h ⊢
  cases hg : o.guard with
  | none => rw [hg] at h; exact h.mono hk
  | some g =>
    obtain ⟨j, b⟩ := g
    rw [hg] at h
    obtain ⟨d, hj, ⟨hu, h⟩ | ⟨c, hc, h⟩⟩ := h
    · exact ⟨d, hj, .inl ⟨hu, hk _ _ h⟩⟩
    · refine ⟨d, hj, .inr ⟨c, hc, ?_⟩⟩
      by_cases e : c = b
      · rw [if_pos e] at h ⊢; exact h.mono hk
      · rw [if_neg e] at h ⊢; exact hk _ _ h

theorem Gx.congr {P : Program} {ops : Array Oper} {o : Oper} {ρ ρ' : Env} {w : World} {K : Value → World → Prop} (hs : ∀ cs b, o.op ≠ .select cs b) (h : ∀ t, t ∈ o.looksAt ops → ρ t = ρ' t) (hx : Gx P ops o ρ w K) : Gx P ops o ρ' w K := by
  have h1 : ∀ t, .tmp t ∈ o.op.operands → ρ t = ρ' t := fun t ht => h t (List.mem_append_left _ (List.mem_filterMap.2 ⟨.tmp t, by simpa using ht, rfl⟩))
  unfold Gx at hx ⊢
  cases hg : o.guard with
  | none => rw [hg] at hx; exact hx.congr hs h1
  | some g =>
    obtain ⟨j, b⟩ := g
    rw [hg] at hx
    obtain ⟨d, hj, hx⟩ := hx
    have hd : ρ d = ρ' d := h d (List.mem_append_right _ (by rw [hg]; simp [hj]))
    refine ⟨d, hj, ?_⟩
    rw [← hd]
    rcases hx with hx | ⟨c, hc, hx⟩
    · exact .inl hx
    · refine .inr ⟨c, hc, ?_⟩
      by_cases e : c = b
      · rw [if_pos e] at hx ⊢; exact hx.congr hs h1
      · rw [if_neg e] at hx ⊢; exact hx

theorem Wp.run {r : Option Nat} {P : Program} {n : Nat} {c : Code} {ρ : Env} {w : World} {Q : Exit → Env → World → Prop} (h : Wp r P n c ρ w Q) (ds : List Deferred) (a : Act) (ha : OkA n ds ρ a) : c.wpIn (wd r) 0 P (fun e a' w' => ∃ ρ', OkA n ds ρ' a' ∧ Q e ρ' w') a w := h ds a ha
theorem thenQ.out {K : Env → World → Prop} {Q : Exit → Env → World → Prop} {e : Exit} {ρ : Env} {w : World} (h : thenQ K Q e ρ w) : (e = .normal ∧ K ρ w) ∨ (e ≠ .normal ∧ Q e ρ w) := by
  cases e <;> first | exact .inl ⟨rfl, h⟩ | exact .inr ⟨by simp, h⟩
theorem RetQ.out {P : Program} {fn : Func} {R : Ending → World → Prop} {e : Exit} {ρ : Env} {w : World} (h : RetQ P fn R e ρ w) : (e = .normal ∨ e = .ret) ∧ ∃ v, ResV P fn ρ w v ∧ R (.returned v) w :=
  ⟨by cases e <;> first | exact .inl rfl | exact .inr rfl | exact h.1.elim, h.2⟩
attribute [irreducible] Wp Wo Ox thenQ blockQ Gx RetQ
end Go.Proofs.Ythpdpipcfhodoaa
