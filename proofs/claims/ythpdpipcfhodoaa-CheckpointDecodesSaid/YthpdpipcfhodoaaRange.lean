/- A range over a function: the statement, a round, the function's end. No condition. -/
import Derived.Test.YthpdpipcfhodoaaTab
import Derived.RangeFuncLeaves
import Derived.RangeFuncRecord
namespace Go.Proofs.Ythpdpipcfhodoaa
open Go.RowKit
set_option linter.unusedSimpArgs false
set_option maxHeartbeats 4000000
set_option linter.unusedVariables false

theorem Fr.put {a b : World} {S : List Nat} (h : Fr a b S) {l : Nat} (hl : l ∈ S ∨ a.heap.size ≤ l) (o : Obj) : Fr a (b.putObj l o) S :=
  ⟨h.os, h.tape, h.output, by rw [World.putObj_size]; exact h.size, fun k hk hS => by
    rw [World.putObj_heap_other (by rintro rfl; rcases hl with hl | hl; exact hS hl; omega)]; exact h.block k hk hS⟩

/-- The record of a loop. -/
def recOf (fn : FuncId) (tmps : Array Value) (ps : Array Tmp) (assign body : Code) (D : Nat) (st : LoopState) (pe : Option Code) : Loop := { state := st, pending := pe, fn, tmps, params := ps, assign, body, defers := D }
def YieldOk (P : Program) (l : Nat) (args : Array Value) (w : World) (K : Bool → World → Prop) : Prop :=
  ∃ fn tmps assign body, (Instr.yield l args).run P w = .ok (.round l fn tmps assign body) w ∧ RoundIn (wd none) 0 P l fn tmps assign body w fun e w' => ∃ b, e = .returned (.bool b) ∧ K b w'
theorem YieldOk.mono {P : Program} {l : Nat} {args : Array Value} {w : World} {K K' : Bool → World → Prop} (h : YieldOk P l args w K) (hk : ∀ b w', K b w' → K' b w') : YieldOk P l args w K' := by
  obtain ⟨fn, tmps, assign, body, h1, h2⟩ := h
  exact ⟨fn, tmps, assign, body, h1, h2.mono fun e w' ⟨b, he, hb⟩ => ⟨b, he, hk _ _ hb⟩⟩

theorem Ox.yield {P : Program} {ρ : Env} {w : World} {K : Value → World → Prop} {d : Option Nat} {ty : TypeId} {pos : String} {aft : Array Edge} {g : Option (Nat × Bool)} {x : Operand} {l : Nat} {args : Array Operand} {ts : Array TypeId} {vs : Array Value} (hx : ev ρ x = .func (.yield l) #[] #[]) (hvs : args.map (ev ρ) = vs)
    (h : YieldOk P l vs w fun b w' => K (.bool b) w') : Ox P ⟨d, .call { callee := .value x, args := args, argTypes := ts }, ty, pos, aft, g⟩ ρ w K := by
  obtain ⟨fn, tmps, assign, body, h1, h2⟩ := h
  subst hvs
  have := h2.mono (R' := fun e w'' => ∃ v, e = .returned v ∧ K v w'') fun e w' ⟨b, he, hb⟩ => ⟨_, he, hb⟩
  simpa [Ox, execOp, resolve, hx, Deferred.ofValue, invoke, go_sem, h1] using this

theorem Ox.yield1 {P : Program} {ρ : Env} {w : World} {K : Value → World → Prop} {d : Option Nat} {ty : TypeId} {pos : String} {aft : Array Edge} {g : Option (Nat × Bool)} {x x1 : Operand} {l : Nat} {ts : Array TypeId} {a1 : Value} (hx : ev ρ x = .func (.yield l) #[] #[]) (h1 : ev ρ x1 = a1)
    (h : YieldOk P l #[a1] w fun b w' => K (.bool b) w') : Ox P ⟨d, .call { callee := .value x, args := #[x1], argTypes := ts }, ty, pos, aft, g⟩ ρ w K := Ox.yield hx (by simp [h1]) h
theorem Ox.yield2 {P : Program} {ρ : Env} {w : World} {K : Value → World → Prop} {d : Option Nat} {ty : TypeId} {pos : String} {aft : Array Edge} {g : Option (Nat × Bool)} {x x1 x2 : Operand} {l : Nat} {ts : Array TypeId} {a1 a2 : Value} (hx : ev ρ x = .func (.yield l) #[] #[]) (h1 : ev ρ x1 = a1) (h2 : ev ρ x2 = a2)
    (h : YieldOk P l #[a1, a2] w fun b w' => K (.bool b) w') : Ox P ⟨d, .call { callee := .value x, args := #[x1, x2], argTypes := ts }, ty, pos, aft, g⟩ ρ w K := Ox.yield hx (by simp [h1, h2]) h

/-- How a round is left. -/
def leftBy : Exit → Option (Bool × Option Code)
  | .normal => some (true, none)
  | .ret => some (false, some .ret)
  | .exit id => some (false, some (.exit id))
  | _ => none

theorem YieldOk.of {P : Program} {n l : Nat} {fn : FuncId} {tmps : Array Value} {ps : Array Tmp} {assign body : Code} {D : Nat} {args : Array Value} {w : World} {K : Bool → World → Prop} (hl : w.heap[l]? = some (.loop (recOf fn tmps ps assign body D .ready none))) (hs : args.size = ps.size) (hn : tmps.size = n) {ρ : Env}
    (hρ : (fun t => ((ps.zip args).foldl (fun tmps (t, a) => tmps.setIfInBounds t a) tmps).getD t undef) = ρ)
    (h : Wp (some l) P n assign ρ w fun e ρ' w1 => e = .normal ∧ w1.heap[l]? = some (.loop (recOf fn tmps ps assign body D .ready none)) ∧
      Wp (some l) P n body ρ' (w1.putObj l (.loop (recOf fn tmps ps assign body D .busy none))) fun e ρ'' w2 => ∃ b jump, leftBy e = some (b, jump) ∧ w2.heap[l]? = some (.loop (recOf fn tmps ps assign body D .busy none)) ∧
        K b (w2.putObj l (.loop (recOf fn tmps ps assign body D (if b then .ready else .done) jump)))) : YieldOk P l args w K := by
  refine ⟨fn, _, assign, body, run_yield hl hs, roundIn_of_wpIn trivial ?_⟩
  have hsz : ∀ (l : List (Tmp × Value)) (a : Array Value), (l.foldl (fun tmps (t, a) => tmps.setIfInBounds t a) a).size = a.size := by
    intro l; induction l with
    | nil => intro a; rfl
    | cons x l ih => intro a; simp only [List.foldl_cons]; rw [ih]; simp
  have hok : OkA n [] ρ { tmps := (ps.zip args).foldl (fun tmps (t, a) => tmps.setIfInBounds t a) tmps, defers := [] } :=
    ⟨by rw [← Array.foldl_toList, hsz]; exact hn, rfl, hρ⟩
  refine wpIn_mono (h.run [] _ hok) ?_
  rintro e a1 w1 ⟨ρ', hok', rfl, hl1, hb⟩
  refine ⟨_, run_beginRound hl1 rfl, ?_⟩
  refine wpIn_mono (hb.run [] _ hok') ?_
  rintro e a2 w2 ⟨ρ'', hok'', b, jump, hlb, hl2, hK⟩
  have he := run_endRound (P := P) jump hl2
  cases e <;> simp [leftBy] at hlb
  all_goals
    obtain ⟨rfl, rfl⟩ := hlb
    exact ⟨_, _, he, _, rfl, hK⟩

section
variable {P : Program} {n : Nat} {fn : Func} {R : Ending → World → Prop}
abbrev markOf (D : Nat) : Deferred := { target := .collected D, args := #[] }
/-- At the function's end, the mark of a range over a function laid at `D`. -/
def RetD (P : Program) (fn : Func) (R : Ending → World → Prop) (D : Nat) (e : Exit) (ρ : Env) (w : World) : Prop := w.heap[D]? = some (.deferred (some [])) ∧ RetQ P fn R e ρ (w.putObj D (.deferred none))
def RetM (P : Program) (fn : Func) (R : Ending → World → Prop) (e : Exit) (ds : List Deferred) (ρ : Env) (w : World) : Prop := (ds = [] ∧ RetQ P fn R e ρ w) ∨ ∃ D, ds = [markOf D] ∧ RetD P fn R D e ρ w
/-- Code that may hold one range over a function. -/
def WpM (P : Program) (n : Nat) (c : Code) (ρ : Env) (w : World) (Q : Exit → List Deferred → Env → World → Prop) : Prop :=
  ∀ a, OkA n [] ρ a → c.wpIn (wd none) 0 P (fun e a' w' => ∃ ds ρ', OkA n ds ρ' a' ∧ Q e ds ρ' w') a w

theorem WpM.seq {x y : Code} {ρ : Env} {w : World} (h : Wp none P n x ρ w (thenQ (fun ρ' w' => WpM P n y ρ' w' (RetM P fn R)) (RetQ P fn R))) : WpM P n (.seq x y) ρ w (RetM P fn R) :=
  fun a ha => wpIn_seq (Code.wpIn_mono (fun e a' w' ⟨ρ', h1, h2⟩ => by
    rcases h2.out with ⟨rfl, h3⟩ | ⟨hn, h3⟩
    · exact h3 a' h1
    · cases e <;> first | exact absurd rfl hn | exact ⟨[], ρ', h1, .inl ⟨rfl, h3⟩⟩) (h.run [] a ha))
theorem WpM.seq1 {x y : Code} {ρ : Env} {w : World} {Q : Exit → List Deferred → Env → World → Prop} (h : Wp none P n x ρ w (fun e ρ' w' => e = .normal ∧ WpM P n y ρ' w' Q)) : WpM P n (.seq x y) ρ w Q :=
  fun a ha => wpIn_seq (Code.wpIn_mono (fun e a' w' ⟨ρ', h1, h2, h3⟩ => by subst h2; exact h3 a' h1) (h.run [] a ha))
theorem WpM.seqM {x y : Code} {ρ : Env} {w : World} (h : WpM P n x ρ w fun e ds ρ' w' => ∃ D, ds = [markOf D] ∧ (match e with | .normal => Wp none P n y ρ' w' (RetD P fn R D) | e => RetD P fn R D e ρ' w')) : WpM P n (.seq x y) ρ w (RetM P fn R) :=
  fun a ha => wpIn_seq (Code.wpIn_mono (fun e a' w' ⟨ds, ρ', h1, D, h2, h3⟩ => by
    subst h2
    cases e <;> first | exact Code.wpIn_mono (fun e a'' w'' ⟨ρ'', h4, h5⟩ => ⟨_, ρ'', h4, .inr ⟨D, rfl, h5⟩⟩) (h3.run _ a' h1) | exact ⟨_, ρ', h1, .inr ⟨D, rfl, h3⟩⟩) (h a ha))
theorem WpM.block {id : Nat} {c : Code} {ρ : Env} {w : World} {Q : Exit → List Deferred → Env → World → Prop} (h : WpM P n c ρ w fun e ds ρ' w' => match e with | .exit id' => if id' = id then Q .normal ds ρ' w' else Q (.exit id') ds ρ' w' | e => Q e ds ρ' w') : WpM P n (.block id c) ρ w Q :=
  fun a ha => wpIn_block (Code.wpIn_mono (fun e a' w' ⟨ds, ρ', h1, h2⟩ => by
    cases e <;> first | exact ⟨ds, ρ', h1, h2⟩ | skip
    rename_i id'
    simp only at h2
    simp only [Exit.inBlock]
    split
    · rename_i e; rw [if_pos e] at h2; exact ⟨ds, ρ', h1, h2⟩
    · rename_i e; rw [if_neg e] at h2; exact ⟨ds, ρ', h1, h2⟩) (h a ha))

/-- The statement: the function that is ranged over is called with a yield whose record is laid. -/
theorem WpM.range {g : Operand} {ps : Array Tmp} {assign body : Code} {gf : Nat} {lb : Array Value} {ρ : Env} {w : World} {Q : Exit → List Deferred → Env → World → Prop} (hg : ev ρ g = .func (.func gf) #[] lb) (hf : CF P gf)
    (h : ∀ fn0 tmps, tmps.size = n → (fun t => Array.getD tmps t undef) = ρ →
      Calls P gf (#[.func (.yield (w.heap.size + 1)) #[] #[]] ++ lb) ((w.alloc (.deferred (some []))).alloc (.loop (recOf fn0 tmps ps assign body w.heap.size .ready none))) fun e W2 =>
        (∃ v, e = .returned v) ∧ ∃ st jump, st ≠ .busy ∧ W2.heap[w.heap.size + 1]? = some (.loop (recOf fn0 tmps ps assign body w.heap.size st jump)) ∧
        (match jump with
          | none => Q .normal [markOf w.heap.size] ρ (W2.putObj (w.heap.size + 1) (.loop (recOf fn0 tmps ps assign body w.heap.size .exhausted jump)))
          | some .ret => Q .ret [markOf w.heap.size] ρ (W2.putObj (w.heap.size + 1) (.loop (recOf fn0 tmps ps assign body w.heap.size .exhausted jump)))
          | some (.exit id) => Q (.exit id) [markOf w.heap.size] ρ (W2.putObj (w.heap.size + 1) (.loop (recOf fn0 tmps ps assign body w.heap.size .exhausted jump)))
          | _ => False)) : WpM P n (.rangeFunc g ps assign body) ρ w Q := by
  intro a ha
  refine wpIn_rangeFunc ?_
  intro fn0 _
  obtain ⟨fng, cg, hf1, hf2, hf3⟩ := hf.out
  have hnn : fng.name ≠ "runtime.NumGoroutine" := by simpa using hf3
  have hga : a.eval g = .func (.func gf) #[] lb := by rw [eval_ev, ha.env]; exact hg
  obtain ⟨W1, hW1⟩ : ∃ W1, W1 = (w.alloc (.deferred (some []))).alloc (.loop (recOf fn0 a.tmps ps assign body w.heap.size .ready none)) := ⟨_, rfl⟩
  refine ⟨w.heap.size + 1, [markOf w.heap.size], W1, { target := .fn (.func gf) lb, args := #[.func (.yield (w.heap.size + 1)) #[] #[]] }, W1, gf, #[.func (.yield (w.heap.size + 1)) #[] #[]] ++ lb, W1, by rw [hW1]; exact run_enterLoop_outer _ _ _ _ _, ?_, fun _ _ => trivial, ?_, fun hh => by simp [wd] at hh, ?_⟩
  · simp only [resolve, hga]; simp [go_sem]
  · simp [invoke, callFunc, go_sem, hf1, hf2, hnn]
  · rw [hW1]
    refine CallsIn.mono (callsIn_wd (h fn0 a.tmps ha.size ha.env)) ?_
    rintro e W2 ⟨⟨v, rfl⟩, st, jump, hst, hl2, hq⟩
    refine ⟨jump, _, run_endLoop hl2 hst, ?_⟩
    have hok : OkA n [markOf w.heap.size] ρ { a with defers := [markOf w.heap.size] ++ a.defers } := ⟨ha.size, by simp [ha.defers], ha.env⟩
    match jump, hq with
    | none, hq => exact ⟨_, ρ, hok, hq⟩
    | some .ret, hq => exact wpIn_ret ⟨_, ρ, hok, hq⟩
    | some (.exit id), hq => exact wpIn_exit ⟨_, ρ, hok, hq⟩

theorem env_set {a : Array Value} {d : Nat} {v : Value} (h : d < a.size) : (fun t => (a.setIfInBounds d v).getD t undef) = upd (fun t => a.getD t undef) d v := by
  funext t
  simp only [upd_if, Array.getD_eq_getD_getElem?, Array.getElem?_setIfInBounds]
  by_cases e : t = d
  · subst e; simp [h]
  · rw [if_neg (Ne.symm e), if_neg e]
theorem Fr.old {a b : World} {S : List Nat} {l : Nat} (h : Fr a b (l :: S)) (hl : a.heap.size ≤ l) : Fr a b S :=
  ⟨h.os, h.tape, h.output, h.size, fun k hk hS => h.block k hk (by simp only [List.mem_cons, not_or]; exact ⟨by omega, hS⟩)⟩

/-- A range over an iterator of pairs whose rounds count down: the record lies behind the scenes. -/
theorem WpM.iter {p1 p2 : Nat} {asg body : Code} {g0 : Operand} {ρ : Env} {w : World} {Q : Exit → List Deferred → Env → World → Prop} {gf : Nat} {lb : Array Value} (hg : ev ρ g0 = .func (.func gf) #[] lb) (hcf : CF P gf) (hp1 : p1 < n) (hp2 : p2 < n) (len : Nat) (a1 a2 : Nat → Value) (D : World → Prop) (S : List Nat) (hS : ∀ k, k ∈ S → k < w.heap.size)
    (hit : ∀ (l : Nat) (I' : Nat → World → Prop) (J' : World → Prop) (W1 : World), (∀ k W, I' k W → D W) → (∀ k W, k < len → I' (k + 1) W → YieldOk P l #[a1 k, a2 k] W fun r W' => (r = true ∧ I' k W') ∨ (r = false ∧ J' W')) → I' len W1 →
      Calls P gf (#[.func (.yield l) #[] #[]] ++ lb) W1 fun e w' => (∃ v, e = .returned v) ∧ (I' 0 w' ∨ J' w'))
    (hD : ∀ W, Fr w W S → D W) (I : Nat → World → Prop) (J : World → Prop) (hI : ∀ k l W W', w.heap.size ≤ l → Fr W W' [l] → I k W → I k W') (hJ : ∀ l W W', w.heap.size ≤ l → Fr W W' [l] → J W → J W') (h0 : I len w)
    (hround : ∀ l k W, k < len → Wp (some l) P n asg (upd (upd ρ p1 (a1 k)) p2 (a2 k)) W fun e ρ' w1 => e = .normal ∧ w1 = W ∧
      ∀ W, I (k + 1) W → Fr w W S → Wp (some l) P n body ρ' W fun e _ w2 => Fr W w2 S ∧ ((e = .normal ∧ I k w2) ∨ (e = .ret ∧ J w2)))
    (hdone : ∀ D' W, w.heap.size ≤ D' → W.heap[D']? = some (.deferred (some [])) → Fr w W S → I 0 W → Q .normal [markOf D'] ρ W)
    (hret : ∀ D' W, w.heap.size ≤ D' → W.heap[D']? = some (.deferred (some [])) → Fr w W S → J W → Q .ret [markOf D'] ρ W) :
    WpM P n (.rangeFunc g0 #[p1, p2] asg body) ρ w Q := by
  refine WpM.range hg hcf ?_
  intro fn0 tmps htn htr
  obtain ⟨l, hl⟩ : ∃ l, l = w.heap.size + 1 := ⟨_, rfl⟩
  obtain ⟨rec, hrec⟩ : ∃ rec : LoopState → Option Code → Loop, rec = recOf fn0 tmps #[p1, p2] asg body w.heap.size := ⟨_, rfl⟩
  have hr : ∀ st pe, recOf fn0 tmps #[p1, p2] asg body w.heap.size st pe = rec st pe := fun st pe => by rw [hrec]
  simp only [hr]
  rw [← hl]
  obtain ⟨W1, hW1⟩ : ∃ W1, W1 = (w.alloc (.deferred (some []))).alloc (.loop (rec .ready none)) := ⟨_, rfl⟩
  rw [← hW1]
  have hF1 : Fr w W1 [] := by rw [hW1]; exact ((Fr.refl w []).alloc _).alloc _
  have hs1 : W1.heap.size = w.heap.size + 2 := by rw [hW1]; simp
  have hD1 : W1.heap[w.heap.size]? = some (.deferred (some [])) := by
    rw [hW1, Below.heap_alloc _ _ _ (by simp)]; exact World.alloc_heap_new w _
  have hl1 : W1.heap[l]? = some (.loop (rec .ready none)) := by
    rw [hW1, hl]; have := World.alloc_heap_new (w.alloc (.deferred (some []))) (.loop (rec .ready none)); rwa [World.size_alloc] at this
  have hlS : l ∉ S := fun hm => by have := hS l hm; omega
  have hdS : w.heap.size ∉ S := fun hm => by have := hS _ hm; omega
  have h01 : I len W1 := by
    rw [hW1]
    refine hI len l _ _ (by omega) (((Fr.refl _ _).alloc _)) (hI len l _ _ (by omega) ((Fr.refl w _).alloc _) h0)
  refine (hit l (fun k W => I k W ∧ Fr w W S ∧ W.heap[l]? = some (.loop (rec .ready none)) ∧ W.heap[w.heap.size]? = some (.deferred (some [])))
    (fun W => J W ∧ Fr w W S ∧ W.heap[l]? = some (.loop (rec .done (some .ret))) ∧ W.heap[w.heap.size]? = some (.deferred (some []))) W1 (fun k W h => hD W h.2.1) ?_ ⟨h01, hF1.mono (by simp), hl1, hD1⟩).mono ?_
  · rintro k W hk ⟨hIk, hF, hlk, hdk⟩
    have hlt := lt_of_block hlk
    rw [hrec] at hlk
    refine YieldOk.of (ρ := upd (upd ρ p1 (a1 k)) p2 (a2 k)) hlk rfl htn ?_ ?_
    · rw [← htr, ← env_set (by omega), ← env_set (by simp; omega)]; simp
    · rw [← hrec] at hlk
      refine (hround l k W hk).mono ?_
      rintro e ρ' w1 ⟨rfl, rfl, hbody⟩
      simp only [hr]
      refine ⟨trivial, hlk, ?_⟩
      have hl2 := World.putObj_heap_same (w := w1) (o := .loop (rec .busy none)) hlt
      have hd2 : (w1.putObj l (.loop (rec .busy none))).heap[w.heap.size]? = some (.deferred (some [])) := (World.putObj_heap_other (by omega)).trans hdk
      have hF2 : Fr w (w1.putObj l (.loop (rec .busy none))) S := hF.put (.inr (by omega)) _
      refine (hbody _ (hI _ l _ _ (by omega) ((Fr.refl w1 _).put (.inl (by simp)) _) hIk) hF2).mono ?_
      rintro e ρ'' w2 ⟨hF3, ⟨rfl, hI2⟩ | ⟨rfl, hJ2⟩⟩
      · refine ⟨true, none, rfl, hF3.blk hl2 hlS, .inl ⟨rfl, hI _ l _ _ (by omega) ((Fr.refl w2 _).put (.inl (by simp)) _) hI2, (hF2.trans hF3).put (.inr (by omega)) _, World.putObj_heap_same (lt_of_block (hF3.blk hl2 hlS)), (World.putObj_heap_other (by omega)).trans (hF3.blk hd2 hdS)⟩⟩
      · refine ⟨false, some .ret, rfl, hF3.blk hl2 hlS, .inr ⟨rfl, hJ l _ _ (by omega) ((Fr.refl w2 _).put (.inl (by simp)) _) hJ2, (hF2.trans hF3).put (.inr (by omega)) _, World.putObj_heap_same (lt_of_block (hF3.blk hl2 hlS)), (World.putObj_heap_other (by omega)).trans (hF3.blk hd2 hdS)⟩⟩
  · rintro e W2 ⟨hv, ⟨hI2, hF2, hl2, hd2⟩ | ⟨hJ2, hF2, hl2, hd2⟩⟩
    · refine ⟨hv, .ready, none, by simp, hl2, ?_⟩
      exact hdone _ _ (Nat.le_refl _) ((World.putObj_heap_other (by omega)).trans hd2) (hF2.put (.inr (by omega)) _) (hI _ l _ _ (by omega) ((Fr.refl W2 _).put (.inl (by simp)) _) hI2)
    · refine ⟨hv, .done, some .ret, by simp, hl2, ?_⟩
      exact hret _ _ (Nat.le_refl _) ((World.putObj_heap_other (by omega)).trans hd2) (hF2.put (.inr (by omega)) _) (hJ l _ _ (by omega) ((Fr.refl W2 _).put (.inl (by simp)) _) hJ2)

theorem calls_WpM {f : FuncId} {c : Code} {args : List Value} {w : World} (hf : P.funcs[f]? = some fn) (hb : fn.body = some c) (hnt : fn.ntmps = n)
    (hn : (args.length ≤ n)) (h : WpM P n c (initE args) w (RetM P fn R)) :
    Calls P f args.toArray w R := by
  subst hnt
  refine CallsIn.calls (F := wd none) (n := 0) (callsIn_of_wp_marks hf hb trivial ?_) (fun _ => room_wide _)
  refine Code.wpIn_mono ?_ (h { tmps := args.toArray ++ Array.replicate (fn.ntmps - args.toArray.size) undef, defers := [] } ⟨by simp; omega, rfl, ?_⟩)
  · rintro e a' w' ⟨ds, ρ', ⟨h1, h2, h3⟩, ⟨rfl, hq⟩ | ⟨D, rfl, hD, hq⟩⟩
    · obtain ⟨h4, v, h5, h6⟩ := hq.out
      rcases h4 with rfl | rfl
      all_goals (simp only [bodyPostM]; rw [h2]; exact ⟨v, h5 _ h3, h6⟩)
    · obtain ⟨h4, v, h5, h6⟩ := hq.out
      rcases h4 with rfl | rfl
      all_goals (simp only [bodyPostM]; rw [h2]; exact ⟨by simp, .inl ⟨D, _, rfl, run_takeDeferred hD, v, h5 _ h3, h6⟩⟩)
  · funext t
    simp only [envOf, initE, Array.getD_eq_getD_getElem?, Array.getElem?_append, List.getD_eq_getElem?_getD, List.size_toArray, List.getElem?_toArray, Array.getElem?_replicate]
    split
    · rfl
    · rename_i hlt
      rw [List.getElem?_eq_none (by omega)]
      split <;> rfl
end
end Go.Proofs.Ythpdpipcfhodoaa
