/- A region whose order is open, in one walk: the operations that change nothing, each wherever it may stand, between the calls that change the world, which stand in one order. No condition. -/
import Derived.Test.YthpdpipcfhodoaaEng
namespace Go.Proofs.Ythpdpipcfhodoaa
open Go.RowKit
set_option linter.unusedSimpArgs false
set_option maxHeartbeats 4000000
set_option linter.unusedVariables false

/-! ### A region whose order is open: one walk over its operations in an order of ours -/
def bdeps (ops : Array Oper) (i : Nat) : List Nat := match ops[i]? with
  | some o => (o.after.toList.filter fun e => Region.binds .any e).map (·.on)
  | none => []
def readsOk (ops : Array Oper) : Bool := (List.range ops.size).all fun i => match ops[i]? with
  | some o => (o.looksAt ops).all fun t => (List.range ops.size).all fun j => match ops[j]? with
    | some oj => oj.dst != some t || (bdeps ops i).contains j
    | none => true
  | none => true
def isSel : Op → Bool
  | .select _ _ => true
  | _ => false
/-- An order of ours: operations that change nothing, each shown wherever it may stand; where a change comes, each that may come first. -/
inductive Td where
  | done
  | stop
  | pure (i : Nat) (r : Td)
  | alt (i : Nat) (t m : Td)
def Td.heads : Td → List Nat
  | .alt i _ m => i :: m.heads
  | _ => []
def headsOk (ops : Array Oper) (D hs : List Nat) : Bool := (List.range ops.size).all fun k => D.contains k || hs.contains k || (bdeps ops k).any fun e => !D.contains e
def Td.chk (ops : Array Oper) : List Nat → Bool → Td → Bool
  | D, e, .done => e && (List.range ops.size).all (D.contains ·)
  | _, e, .stop => !e
  | D, e, .pure i r => e && (!D.contains i && ((bdeps ops i).all (D.contains ·) && r.chk ops (i :: D) true))
  | D, e, .alt i t m => (!e || headsOk ops D (i :: m.heads)) && (!D.contains i && ((bdeps ops i).all (D.contains ·) && (t.chk ops (i :: D) true && m.chk ops D false)))
def drawChk (n : Nat) (ops : Array Oper) (td : Td) : Bool := drawOk n ops && (readsOk ops && ((ops.toList.all fun o => !isSel o.op) && td.chk ops [] true))

/-- What may change: the blocks of a kind. -/
def FrZ (w w' : World) (Z : Nat → Prop) : Prop := ∃ S, Fr w w' S ∧ ∀ k, k ∈ S → Z k
theorem FrZ.refl (w : World) (Z : Nat → Prop) : FrZ w w Z := ⟨[], Fr.refl _ _, by simp⟩
theorem FrZ.trans {a b c : World} {Z : Nat → Prop} (h : FrZ a b Z) (k : FrZ b c Z) : FrZ a c Z := by
  obtain ⟨S, h1, h2⟩ := h
  obtain ⟨S', h3, h4⟩ := k
  refine ⟨S ++ S', (h1.mono (by simp +contextual)).trans (h3.mono (by simp +contextual)), fun k hk => ?_⟩
  rcases List.mem_append.1 hk with h | h
  · exact h2 k h
  · exact h4 k h
def ZL (S : List Nat) (k : Nat) : Prop := k ∈ S
def ZP (S : List Nat) (B : Nat) (k : Nat) : Prop := k ∈ S ∨ B ≤ k
theorem FrZ.list {w w' : World} {S : List Nat} (h : FrZ w w' (ZL S)) : Fr w w' S := by
  obtain ⟨S', h1, h2⟩ := h
  exact h1.mono h2
theorem FrZ.plus {w w' : World} {S : List Nat} {B : Nat} (h : FrZ w w' (ZP S B)) : ∃ S2, Fr w w' S2 ∧ ∀ k, k ∈ S2 → k ∈ S ∨ B ≤ k := h
theorem notinP {S2 S : List Nat} {B b : Nat} (h : ∀ k, k ∈ S2 → k ∈ S ∨ B ≤ k) (h1 : b ∉ S) (h2 : b < B) : b ∉ S2 := fun hm => by
  rcases h b hm with h3 | h3
  · exact h1 h3
  · omega

theorem notinC {b a : Nat} {L : List Nat} (h : b ≠ a) (h2 : b ∉ L) : b ∉ a :: L := fun hm => by
  rcases List.mem_cons.1 hm with h3 | h3
  · exact h h3
  · exact h2 h3
theorem notinN {b B : Nat} {L : List Nat} (h : ∀ k, k ∈ L → k < B) (h2 : B ≤ b) : b ∉ L := fun hm => by have := h b hm; omega
theorem subC {b A : Nat} {L S : List Nat} (h : b ∈ S ∨ A ≤ b) (h2 : ∀ x, x ∈ L → x ∈ S ∨ A ≤ x) : ∀ x, x ∈ b :: L → x ∈ S ∨ A ≤ x := fun x hx => by
  rcases List.mem_cons.1 hx with rfl | h3
  · exact h
  · exact h2 x h3
theorem subP {S2 S0 S : List Nat} {A B : Nat} (h : ∀ k, k ∈ S2 → k ∈ S0 ∨ B ≤ k) (h1 : ∀ k, k ∈ S0 → k ∈ S ∨ A ≤ k) (h2 : A ≤ B) : ∀ x, x ∈ S2 → x ∈ S ∨ A ≤ x := fun x hx => by
  rcases h x hx with h3 | h3
  · exact h1 x h3
  · exact .inr (Nat.le_trans h2 h3)

/-- All other operations come before it. -/
def lastB (ops : Array Oper) (i : Nat) : Bool := (List.range ops.size).all fun j => j == i || (bdeps ops i).contains j
/-- Those that come before, at any remove. -/
def ancs (ops : Array Oper) : Nat → List Nat → List Nat
  | 0, acc => acc
  | k + 1, acc => ancs ops k (if acc.contains k then bdeps ops k ++ acc else acc)
theorem ancs_in {ops : Array Oper} {D : Nat → Prop} (hcl : ∀ k, D k → ∀ e, e ∈ bdeps ops k → D e) : ∀ (k : Nat) (acc : List Nat), (∀ m, m ∈ acc → D m) → ∀ m, m ∈ ancs ops k acc → D m := by
  intro k
  induction k with
  | zero => intro acc h m hm; exact h m hm
  | succ k ih =>
    intro acc h m hm
    unfold ancs at hm
    refine ih _ ?_ m hm
    intro x hx
    split at hx
    · rename_i hc
      rcases List.mem_append.1 hx with hx | hx
      · exact hcl k (h k (by simpa using hc)) x hx
      · exact h x hx
    · exact h x hx
/-- Every other operation comes before it or behind it. -/
def lastC (ops : Array Oper) (i : Nat) : Bool := (List.range ops.size).all fun j => j == i || ((ancs ops i (bdeps ops i)).contains j || (bdeps ops j).contains i)
def Wd (P : Program) (ops : Array Oper) (Z : Nat → Prop) (Q : Env → World → Prop) : Td → Env → World → Prop
  | .done, ρ, w => Q ρ w
  | .stop, _, _ => True
  | .pure i r, ρ, w => ∃ o a, ops[i]? = some o ∧ (∀ w', FrZ w w' Z → Gx P ops o ρ w' fun v w'' => v = a ∧ w'' = w') ∧ Wd P ops Z Q r (putE ρ o.dst a) w
  | .alt i t m, ρ, w => (∃ o, ops[i]? = some o ∧ Gx P ops o ρ w fun v w' => (FrZ w w' Z ∨ lastC ops i = true) ∧ Wd P ops Z Q t (putE ρ o.dst v) w') ∧ Wd P ops Z Q m ρ w

section
variable {P : Program} {n : Nat} {ops : Array Oper} {Z : Nat → Prop} {Q : Env → World → Prop}

theorem mem_bdeps {i e : Nat} {o : Oper} (ho : ops[i]? = some o) : e ∈ bdeps ops i ↔ ∃ x ∈ o.after, Region.binds .any x = true ∧ x.on = e := by
  simp [bdeps, ho, and_assoc]

structure OpsOk (ops : Array Oper) : Prop where
  reads : ∀ (i : Nat) (o : Oper), ops[i]? = some o → ∀ t, t ∈ o.looksAt ops → ∀ (j : Nat) (oj : Oper), ops[j]? = some oj → oj.dst = some t → j ∈ bdeps ops i
  one : ∀ (i j : Nat) (o o' : Oper) (d : Nat), ops[i]? = some o → ops[j]? = some o' → o.dst = some d → o'.dst = some d → i = j
  sel : ∀ (i : Nat) (o : Oper), ops[i]? = some o → ∀ cs b, o.op ≠ .select cs b
  self : ∀ i, i ∉ bdeps ops i

theorem OpsOk.of {td : Td} (h : drawChk n ops td = true) : drawOk n ops = true ∧ OpsOk ops ∧ td.chk ops [] true = true := by
  simp only [drawChk, Bool.and_eq_true] at h
  obtain ⟨h0, h1, h6, h7⟩ := h
  refine ⟨h0, ⟨?_, (DrawOk.of h0).one, ?_, ?_⟩, h7⟩
  · intro i o ho t ht j oj hj hd
    unfold readsOk at h1
    rw [List.all_eq_true] at h1
    have := h1 i (List.mem_range.2 (Array.getElem?_eq_some_iff.1 ho).1)
    simp only [ho, List.all_eq_true] at this
    have := this t ht j (List.mem_range.2 (Array.getElem?_eq_some_iff.1 hj).1)
    simp only [hj, hd, bne_self_eq_false, Bool.false_or] at this
    simpa using this
  · intro i o ho cs b e
    rw [List.all_eq_true] at h6
    have := h6 o (by simpa using Array.mem_of_getElem? ho)
    simp [e, isSel] at this
  · intro i hi
    cases ho : ops[i]? with
    | none => simp [bdeps, ho] at hi
    | some o =>
      obtain ⟨x, hx, hb, rfl⟩ := (mem_bdeps ho).1 hi
      have := (DrawOk.of h0).dep _ o ho x hx hb
      omega

/-- `ρ` and `ρ'` agree but on what the operations outside `D` write. -/
def Agr (ops : Array Oper) (D : List Nat) (ρ ρ' : Env) : Prop := ∀ t, (∀ (j : Nat) o, j ∉ D → ops[j]? = some o → o.dst ≠ some t) → ρ' t = ρ t

/-- What is known of an operation that was walked. -/
def Known (P : Program) (ops : Array Oper) (Z : Nat → Prop) (w : World) (ρ : Env) (i : Nat) : Prop :=
  ∃ o a, ops[i]? = some o ∧ (∀ w', FrZ w w' Z → Gx P ops o ρ w' fun v w'' => v = a ∧ w'' = w') ∧ ∀ d, o.dst = some d → ρ d = a

theorem Known.agr (hT : OpsOk ops) {D : List Nat} (hc : ∀ i, i ∈ D → ∀ e, e ∈ bdeps ops i → e ∈ D) {w w' : World} {ρ ρ' : Env} {i : Nat} (hi : i ∈ D) (hf : FrZ w w' Z) (ha : Agr ops D ρ ρ') (h : Known P ops Z w ρ i) : Known P ops Z w' ρ' i := by
  obtain ⟨o, a, ho, hg, hd⟩ := h
  refine ⟨o, a, ho, fun w2 hw2 => (hg w2 (hf.trans hw2)).congr (hT.sel i o ho) ?_, ?_⟩
  · intro t htt
    refine (ha t ?_).symm
    intro j oj hj hoj hdj
    exact hj (hc i hi j (hT.reads i o ho t htt j oj hoj hdj))
  · intro d hdd
    rw [ha d ?_]; exact hd d hdd
    intro j oj hj hoj hdj
    have := hT.one i j o oj d ho hoj hdd hdj
    subst this
    exact hj hi

theorem Agr.put (hT : OpsOk ops) {D : List Nat} {i : Nat} {o : Oper} (ho : ops[i]? = some o) (hi : i ∉ D) (ρ : Env) (v : Value) : Agr ops D ρ (putE ρ o.dst v) := by
  intro t h1
  have := h1 i o hi ho
  cases hd : o.dst with
  | none => rfl
  | some d => simp only [putE, upd_if]; rw [if_neg]; rintro rfl; exact this hd
theorem Agr.trans {D D' : List Nat} {a b c : Env} (h : Agr ops D a b) (k : Agr ops D' b c) (hs : ∀ i, i ∈ D → i ∈ D') : Agr ops D a c := by
  intro t ht
  rw [k t fun j o hj ho => ht j o (fun hm => hj (hs j hm)) ho]
  exact h t ht

/-- Where the walk stands. -/
structure At (P : Program) (ops : Array Oper) (Z : Nat → Prop) (Q : Env → World → Prop) (pre : List (Nat × Bool)) (td : Td) (ρ : Env) (w : World) : Prop where
  chk : td.chk ops (pre.map (·.1)) true = true
  wd : Wd P ops Z Q td ρ w
  known : ∀ i, (i, false) ∈ pre → Known P ops Z w ρ i
  closed : ∀ i, i ∈ pre.map (·.1) → ∀ e, e ∈ bdeps ops i → e ∈ pre.map (·.1)
  nodup : (pre.map (·.1)).Nodup

/-- Walks on over the operations that change nothing. -/
theorem At.norm (hT : OpsOk ops) : ∀ (td : Td) (pre : List (Nat × Bool)) (ρ : Env) (w : World), At P ops Z Q pre td ρ w →
    ∃ pre' td' ρ', At P ops Z Q pre' td' ρ' w ∧ (td' = .done ∨ ∃ i t m, td' = .alt i t m) ∧ (∀ x, x ∈ pre → x ∈ pre') ∧ (∀ i, (i, true) ∈ pre' → (i, true) ∈ pre) ∧ Agr ops (pre.map (·.1)) ρ ρ' := by
  intro td
  induction td with
  | done => intro pre ρ w h; exact ⟨pre, .done, ρ, h, .inl rfl, fun _ h => h, fun _ h => h, fun _ _ => rfl⟩
  | stop => intro pre ρ w h; have := h.chk; simp [Td.chk] at this
  | alt i t m _ _ => intro pre ρ w h; exact ⟨pre, .alt i t m, ρ, h, .inr ⟨_, _, _, rfl⟩, fun _ h => h, fun _ h => h, fun _ _ => rfl⟩
  | pure i r ih =>
    intro pre ρ w h
    have hc := h.chk
    simp only [Td.chk, Bool.true_and, Bool.and_eq_true, Bool.not_eq_true'] at hc
    obtain ⟨hi, hdp, hr⟩ := hc
    have hi' : i ∉ pre.map (·.1) := by intro hm; have : (pre.map (·.1)).contains i = true := by simpa using hm
                                       rw [hi] at this; simp at this
    obtain ⟨o, a, ho, hg, hw⟩ := h.wd
    have hag := Agr.put hT ho hi' ρ a
    have hdep : ∀ t, t ∈ o.looksAt ops → putE ρ o.dst a t = ρ t := by
      intro t htt
      cases hd : o.dst with
      | none => rfl
      | some d =>
        simp only [putE, upd_if]; rw [if_neg]; rintro rfl
        exact hT.self i (hT.reads i o ho _ htt i o ho hd)
    have hk1 : Known P ops Z w (putE ρ o.dst a) i := ⟨o, a, ho, fun w2 hw2 => (hg w2 hw2).congr (hT.sel i o ho) fun t ht => (hdep t ht).symm, fun d hd => by simp [hd, putE, upd_if]⟩
    have hat2 : At P ops Z Q ((i, false) :: pre) r (putE ρ o.dst a) w := by
      refine ⟨by simpa using hr, hw, ?_, ?_, by simpa using ⟨by simpa using hi', h.nodup⟩⟩
      · intro k hk
        rcases List.mem_cons.1 hk with h1 | h1
        · cases h1; exact hk1
        · exact (h.known k h1).agr hT h.closed (List.mem_map.2 ⟨_, h1, rfl⟩) (FrZ.refl _ _) hag
      · intro k hk e he
        simp only [List.map_cons, List.mem_cons] at hk ⊢
        rcases hk with rfl | hk
        · right
          rw [List.all_eq_true] at hdp
          have := hdp e he
          simpa using this
        · exact .inr (h.closed k hk e he)
    obtain ⟨pre', td', ρ', e1, e2, e3, e4, e5⟩ := ih _ _ _ hat2
    exact ⟨pre', td', ρ', e1, e2, fun x hx => e3 x (by simp [hx]), fun k hk => by have := e4 k hk; simpa using this, hag.trans e5 (by simp +contextual)⟩

/-- One of the changes that may come first. -/
theorem Wd.get : ∀ (td : Td) (D : List Nat) (b : Bool) (ρ : Env) (w : World) (i : Nat), td.chk ops D b = true → Wd P ops Z Q td ρ w → i ∈ td.heads →
    ∃ t, i ∉ D ∧ (∀ e, e ∈ bdeps ops i → e ∈ D) ∧ t.chk ops (i :: D) true = true ∧ ∃ o, ops[i]? = some o ∧ Gx P ops o ρ w fun v w' => (FrZ w w' Z ∨ lastC ops i = true) ∧ Wd P ops Z Q t (putE ρ o.dst v) w' := by
  intro td
  induction td with
  | done => intro D b ρ w i _ _ h; simp [Td.heads] at h
  | stop => intro D b ρ w i _ _ h; simp [Td.heads] at h
  | pure k r _ => intro D b ρ w i _ _ h; simp [Td.heads] at h
  | alt k t m _ ih =>
    intro D b ρ w i hc hw h
    simp only [Td.chk, Bool.and_eq_true, Bool.not_eq_true'] at hc
    obtain ⟨_, h1, h2, h3, h4⟩ := hc
    rcases List.mem_cons.1 h with rfl | h5
    · refine ⟨t, ?_, ?_, h3, hw.1⟩
      · intro hm; have : D.contains i = true := by simpa using hm
        rw [h1] at this; simp at this
      · intro e he
        rw [List.all_eq_true] at h2
        have := h2 e he
        simpa using this
    · exact ih D false ρ w i h4 hw.2 h5

structure DInv (P : Program) (ops : Array Oper) (Z : Nat → Prop) (Q : Env → World → Prop) (D : Nat → Prop) (ρ' : Env) (w' : World) : Prop where
  ex : ∃ pre td ρk, At P ops Z Q pre td ρk w' ∧ (td = .done ∨ ∃ i t m, td = .alt i t m) ∧
    (∀ i, (i, true) ∈ pre → D i) ∧ (∀ i, D i → ∃ b, (i, b) ∈ pre) ∧ (∀ j o d, D j → ops[j]? = some o → o.dst = some d → ρ' d = ρk d) ∧
    (∀ t, (∀ (j : Nat) o, ops[j]? = some o → o.dst ≠ some t) → ρ' t = ρk t) ∧ ∀ k, D k → ∀ e, e ∈ bdeps ops k → D e

theorem DInv.start {ρ : Env} {w : World} {td : Td} (hT : OpsOk ops) (hch : td.chk ops [] true = true) (h : Wd P ops Z Q td ρ w.drew) : DInv P ops Z Q (fun _ => False) ρ w.drew := by
  obtain ⟨pre', td', ρ', e1, e2, e3, e4, e5⟩ := At.norm hT td [] ρ w.drew ⟨by simpa using hch, h, by simp, by simp, by simp⟩
  refine ⟨pre', td', ρ', e1, e2, ?_, ?_, ?_, ?_⟩
  · intro i hi; exact absurd (e4 i hi) (by simp)
  · intro i hi; exact hi.elim
  · intro j o d hj; exact hj.elim
  · exact ⟨fun t ht => (e5 t fun j o _ ho => ht j o ho).symm, fun k hk => hk.elim⟩
theorem DInv.step (hT : OpsOk ops) : ∀ (D : Nat → Prop) (ρ' : Env) (w' : World) (i : Nat) (o : Oper), ops[i]? = some o → ¬ D i → (∀ e ∈ o.after, Region.binds .any e = true → D e.on) → DInv P ops Z Q D ρ' w' →
      Gx P ops o ρ' w' fun v w'' => DInv P ops Z Q (fun j => j = i ∨ D j) (putE ρ' o.dst v) w'' := by
  rintro D ρ' w' i o ho hnD hdep ⟨pre, td, ρk, hat, hr, hE, hD, hag, hag0, hcl⟩
  have hD' : ∀ e, e ∈ bdeps ops i → D e := by
    intro e he
    obtain ⟨x, hx, hb, rfl⟩ := (mem_bdeps ho).1 he
    exact hdep x hx hb
  have hlook : ∀ t, t ∈ o.looksAt ops → ρk t = ρ' t := by
    intro t htt
    by_cases hex : ∃ (j : Nat) (oj : Oper), ops[j]? = some oj ∧ oj.dst = some t
    · obtain ⟨j, oj, hj, hd⟩ := hex
      exact (hag j oj t (hD' j (hT.reads i o ho t htt j oj hj hd)) hj hd).symm
    · exact (hag0 t fun j oj hj hd => hex ⟨j, oj, hj, hd⟩).symm
  by_cases hp : i ∈ pre.map (·.1)
  · obtain ⟨⟨i', b⟩, hp2, rfl⟩ := List.mem_map.1 hp
    clear hp
    have hp := hp2
    cases b with
    | true => exact absurd (hE i' hp) hnD
    | false =>
      obtain ⟨o', a, ho', hg, hd⟩ := hat.known i' hp
      rw [ho] at ho'; cases ho'
      refine ((hg w' (FrZ.refl _ _)).congr (hT.sel i' o ho) hlook).mono ?_
      rintro v w'' ⟨rfl, rfl⟩
      refine ⟨pre, td, ρk, hat, hr, fun k h1 => .inr (hE k h1), ?_, ?_, ?_⟩
      · rintro k (rfl | h1)
        · exact ⟨_, hp⟩
        · exact hD k h1
      · rintro k ok d hkD hok' hkd
        by_cases e : k = i'
        · subst e
          rw [ho] at hok'; cases hok'
          simp only [putE, hkd, upd_if, if_true]
          exact (hd d hkd).symm
        · have h1 := hag k ok d (hkD.resolve_left e) hok' hkd
          cases hdo : o.dst with
          | none => exact h1
          | some d' =>
            simp only [putE, upd_if]; rw [if_neg]; exact h1
            rintro rfl
            exact e (hT.one k i' ok o _ hok' ho hkd hdo)
      · refine ⟨?_, fun k hk e he => hk.elim (fun h1 => .inr (hD' e (h1 ▸ he))) (fun h1 => .inr (hcl k h1 e he))⟩
        intro t ht'
        have h1 := hag0 t ht'
        cases hdo : o.dst with
        | none => exact h1
        | some d' =>
          simp only [putE, upd_if]; rw [if_neg]; exact h1
          rintro rfl
          exact ht' i' o ho hdo
  · have hlt : i < ops.size := (Array.getElem?_eq_some_iff.1 ho).1
    have hDp : ∀ e, e ∈ bdeps ops i → e ∈ pre.map (·.1) := fun e he => by
      obtain ⟨b, hb⟩ := hD e (hD' e he)
      exact List.mem_map.2 ⟨_, hb, rfl⟩
    have hh : i ∈ td.heads := by
      have hc := hat.chk
      rcases hr with rfl | ⟨k, t, m, rfl⟩
      · exfalso
        simp only [Td.chk, Bool.true_and, List.all_eq_true] at hc
        have := hc i (List.mem_range.2 hlt)
        exact hp (by simpa using this)
      · simp only [Td.chk, Bool.and_eq_true, Bool.or_eq_true, Bool.not_eq_true', Bool.true_eq_false, false_or] at hc
        have h1 := hc.1
        unfold headsOk at h1
        rw [List.all_eq_true] at h1
        have h2 := h1 i (List.mem_range.2 hlt)
        rw [Bool.or_eq_true, Bool.or_eq_true] at h2
        rcases h2 with (h2 | h2) | h2
        · exact absurd (by simpa using h2) hp
        · simpa [Td.heads] using h2
        · exfalso
          rw [List.any_eq_true] at h2
          obtain ⟨e, he, h3⟩ := h2
          have := hDp e he
          rw [Bool.not_eq_true'] at h3
          have h4 : (pre.map (·.1)).contains e = true := by simpa using this
          rw [h3] at h4; simp at h4
    obtain ⟨t, hiD, hdeps, hct, o', ho', hg⟩ := Wd.get td _ true ρk w' i hat.chk hat.wd hh
    rw [ho] at ho'; cases ho'
    refine (hg.congr (hT.sel i o ho) hlook).mono ?_
    rintro v w'' ⟨hf, hw2⟩
    have hagE := Agr.put hT ho hiD ρk v
    obtain ⟨pre0, hp1, hp2, hp3, hat2⟩ : ∃ pre0 : List (Nat × Bool), pre0.map (·.1) = pre.map (·.1) ∧ (∀ k, (k, true) ∈ pre0 → D k) ∧ (∀ k b, (k, b) ∈ pre → ∃ b', (k, b') ∈ pre0) ∧ At P ops Z Q ((i, true) :: pre0) t (putE ρk o.dst v) w'' := by
      rcases hf with hf | hlast
      · refine ⟨pre, rfl, fun k hk => hE k hk, fun k b hk => ⟨b, hk⟩, by simpa using hct, hw2, ?_, ?_, by simpa using ⟨by simpa using hiD, hat.nodup⟩⟩
        · intro k hk
          have : (k, false) ∈ pre := by simpa using hk
          exact (hat.known k this).agr hT hat.closed (List.mem_map.2 ⟨_, this, rfl⟩) hf hagE
        · intro k hk e he
          simp only [List.map_cons, List.mem_cons] at hk ⊢
          rcases hk with rfl | hk
          · exact .inr (hDp e he)
          · exact .inr (hat.closed k hk e he)
      · have hmap : (pre.map fun x => (x.1, true)).map (·.1) = pre.map (·.1) := by simp
        refine ⟨pre.map fun x => (x.1, true), hmap, fun k hk => ?_, fun k b hk => ⟨true, List.mem_map.2 ⟨_, hk, rfl⟩⟩, by rw [List.map_cons, hmap]; simpa using hct, hw2, ?_, ?_, by rw [List.map_cons, hmap]; simpa using ⟨by simpa using hiD, hat.nodup⟩⟩
        · obtain ⟨⟨k', b⟩, hkp, hke⟩ := List.mem_map.1 hk
          simp only [Prod.mk.injEq, and_true] at hke
          subst hke
          cases b with
          | true => exact hE _ hkp
          | false =>
            obtain ⟨ok, a, hok, -⟩ := hat.known _ hkp
            unfold lastC at hlast
            rw [List.all_eq_true] at hlast
            have h2 := hlast k' (List.mem_range.2 (Array.getElem?_eq_some_iff.1 hok).1)
            rw [Bool.or_eq_true, Bool.or_eq_true] at h2
            rcases h2 with h2 | h2 | h2
            · have : k' = i := by simpa using h2
              subst this
              exact absurd (List.mem_map.2 ⟨_, hkp, rfl⟩) hiD
            · exact ancs_in hcl i _ hD' k' (by simpa using h2)
            · exact absurd (hat.closed k' (List.mem_map.2 ⟨_, hkp, rfl⟩) i (by simpa using h2)) hiD
        · intro k hk
          exfalso
          rcases List.mem_cons.1 hk with hk | hk
          · simp at hk
          · obtain ⟨x, -, hx⟩ := List.mem_map.1 hk
            simp at hx
        · intro k hk e he
          rw [List.map_cons, hmap] at hk ⊢
          simp only [List.mem_cons] at hk ⊢
          rcases hk with rfl | hk
          · exact .inr (hDp e he)
          · exact .inr (hat.closed k hk e he)
    obtain ⟨pre', td', ρ2, e1, e2, e3, e4, e5⟩ := At.norm hT t _ _ _ hat2
    · refine ⟨pre', td', ρ2, e1, e2, ?_, ?_, ?_, ?_⟩
      · intro k hk
        rcases List.mem_cons.1 (e4 k hk) with h1 | h1
        · cases h1; exact .inl rfl
        · exact .inr (hp2 k h1)
      · rintro k (rfl | h1)
        · exact ⟨true, e3 _ (by simp)⟩
        · obtain ⟨b, hb⟩ := hD k h1
          obtain ⟨b', hb'⟩ := hp3 k b hb
          exact ⟨b', e3 _ (by simp [hb'])⟩
      · rintro k ok d hkD hok' hkd
        have hkp : k ∈ ((i, true) :: pre0).map (·.1) := by
          rcases hkD with rfl | h1
          · simp
          · obtain ⟨b, hb⟩ := hD k h1
            obtain ⟨b', hb'⟩ := hp3 k b hb
            exact List.mem_map.2 ⟨(k, b'), by simp [hb'], rfl⟩
        have h2 : ρ2 d = putE ρk o.dst v d := by
          refine e5 d ?_
          intro j oj hj hoj hdj
          have := hT.one k j ok oj d hok' hoj hkd hdj
          subst this
          exact hj hkp
        rw [h2]
        by_cases e : k = i
        · subst e
          rw [ho] at hok'; cases hok'
          simp [putE, hkd, upd_if]
        · have h1 := hag k ok d (hkD.resolve_left e) hok' hkd
          cases hdo : o.dst with
          | none => exact h1
          | some d' =>
            have : d ≠ d' := by
              rintro rfl
              exact e (hT.one k i ok o _ hok' ho hkd hdo)
            simp only [putE, upd_if]; rw [if_neg this, if_neg this]; exact h1
      · refine ⟨?_, fun k hk e he => hk.elim (fun h1 => .inr (hD' e (h1 ▸ he))) (fun h1 => .inr (hcl k h1 e he))⟩
        intro t' ht'
        have h1 := hag0 t' ht'
        rw [e5 t' fun j oj _ hoj => ht' j oj hoj]
        cases hdo : o.dst with
        | none => exact h1
        | some d' =>
          have : t' ≠ d' := by rintro rfl; exact ht' i o ho hdo
          simp only [putE, upd_if]; rw [if_neg this, if_neg this]; exact h1
theorem DInv.finish (hT : OpsOk ops) : ∀ (D : Nat → Prop) (ρ' : Env) (w' : World), (∀ i, i < ops.size → D i) → DInv P ops Z Q D ρ' w' → Q ρ' w' := by
  rintro D ρ' w' hall ⟨pre, td, ρk, hat, hr, hE, hD, hag, hag0, hcl⟩
  have hd : td = .done := by
    rcases hr with h1 | ⟨i, t, m, rfl⟩
    · exact h1
    · exfalso
      obtain ⟨t', hiD, _, _, o, ho, _⟩ := Wd.get _ _ true ρk w' i hat.chk hat.wd (by simp [Td.heads])
      obtain ⟨b, hb⟩ := hD i (hall i (Array.getElem?_eq_some_iff.1 ho).1)
      exact hiD (List.mem_map.2 ⟨_, hb, rfl⟩)
  subst hd
  have : ρ' = ρk := by
    funext t
    by_cases hex : ∃ (j : Nat) (oj : Oper), ops[j]? = some oj ∧ oj.dst = some t
    · obtain ⟨j, oj, hj, hd⟩ := hex
      exact hag j oj t (hall j (Array.getElem?_eq_some_iff.1 hj).1) hj hd
    · exact hag0 t fun j oj hj hd => hex ⟨j, oj, hj, hd⟩
  rw [this]
  exact hat.wd
theorem Wp.drawZ {r : Option Nat} {id : Nat} {ρ : Env} {w : World} {Q : Exit → Env → World → Prop} (Z : Nat → Prop) (td : Td) (hm : P.follows .mixedOrders = true) (hchk : drawChk n ops td = true)
    (h : ∀ w1, w1.heap = w.heap → Fr w w1 [] → Wd P ops Z (Q .normal) td ρ w1) : Wp r P n (.region id ops true) ρ w Q := by
  obtain ⟨hok, hT, hch⟩ := OpsOk.of hchk
  refine Wp.drawI (DInv P ops Z (Q .normal)) hm hok ?_ ?_ ?_
  · exact DInv.start hT hch (h w.drew rfl (Fr.refl w []).drew)
  · exact DInv.step hT
  · exact DInv.finish hT

/-- A goal that the walk leaves alone. -/
def Hold (p : Prop) : Prop := p
theorem Wp.cutH {r : Option Nat} {P : Program} {n : Nat} {x y : Code} {ρ : Env} {w : World} {Q : Exit → Env → World → Prop} (K : Env → World → Prop) (h : Hold (Wp r P n x ρ w (thenQ K Q))) (hy : ∀ ρ' w', K ρ' w' → Wp r P n y ρ' w' Q) : Wp r P n (.seq x y) ρ w Q := Wp.cut K h hy
/-- The end of an operation that changes nothing. -/
def Px (a : Value) (w : World) (v : Value) (w' : World) : Prop := v = a ∧ w' = w
theorem Px.mk {a : Value} {w : World} : Px a w a w := ⟨rfl, rfl⟩
/-- The end of an operation that may change the blocks `Z`. -/
def Pe (Z : Nat → Prop) (w : World) (K : Value → World → Prop) (v : Value) (w' : World) : Prop := FrZ w w' Z ∧ K v w'
theorem Pe.list {S : List Nat} {w w' : World} {K : Value → World → Prop} {v : Value} (h : Fr w w' S) (k : K v w') : Pe (ZL S) w K v w' := ⟨⟨S, h, fun _ h => h⟩, k⟩
theorem Pe.plus {S S2 : List Nat} {B : Nat} {w w' : World} {K : Value → World → Prop} {v : Value} (h : Fr w w' S2) (hS : ∀ k, k ∈ S2 → k ∈ S ∨ B ≤ k) (k : K v w') : Pe (ZP S B) w K v w' := ⟨⟨S2, h, hS⟩, k⟩
theorem Wp.drawS {r : Option Nat} {id : Nat} {ρ : Env} {w : World} {Q : Exit → Env → World → Prop} (S : List Nat) (todo : Td) (hm : P.follows .mixedOrders = true) (hchk : drawChk n ops todo = true)
    (h : ∀ w1, w1.heap = w.heap → Fr w w1 [] → Wd P ops (ZL S) (Q .normal) todo ρ w1) : Wp r P n (.region id ops true) ρ w Q := Wp.drawZ _ todo hm hchk h
/-- As 'drawS'; what is newer than the region may change, too. -/
theorem Wp.drawP {r : Option Nat} {id : Nat} {ρ : Env} {w : World} {Q : Exit → Env → World → Prop} (S : List Nat) (todo : Td) (hm : P.follows .mixedOrders = true) (hchk : drawChk n ops todo = true)
    (h : ∀ w1, w1.heap = w.heap → Fr w w1 [] → Wd P ops (ZP S w.heap.size) (Q .normal) todo ρ w1) : Wp r P n (.region id ops true) ρ w Q := Wp.drawZ _ todo hm hchk h

section
variable {r m : Td} {ρ : Env} {w : World} {i : Nat} {d : Nat} {op : Op} {ty : TypeId} {pos : String} {aft : Array Edge}
theorem Wd.nil (h : Q ρ w) : Wd P ops Z Q .done ρ w := h
theorem Wd.out (h : Wd P ops Z Q .done ρ w) : Q ρ w := h
theorem Wd.stop : Wd P ops Z Q .stop ρ w := trivial
theorem Wd.pure {a : Value} (ho : ops[i]? = some ⟨some d, op, ty, pos, aft, none⟩) (h : ∀ w', FrZ w w' Z → Ox P ⟨some d, op, ty, pos, aft, none⟩ ρ w' (Px a w')) (k : Wd P ops Z Q r (upd ρ d a) w) :
    Wd P ops Z Q (.pure i r) ρ w := ⟨_, a, ho, fun w' hw => by unfold Gx; exact h w' hw, k⟩
theorem Wd.eff (ho : ops[i]? = some ⟨some d, op, ty, pos, aft, none⟩) (h : Ox P ⟨some d, op, ty, pos, aft, none⟩ ρ w (Pe Z w fun v w' => Wd P ops Z Q r (upd ρ d v) w')) (k : Wd P ops Z Q m ρ w) :
    Wd P ops Z Q (.alt i r m) ρ w := ⟨⟨_, ho, by unfold Gx; exact h.mono fun _ _ hp => ⟨.inl hp.1, hp.2⟩⟩, k⟩
/-- The last operation may change what it likes. -/
theorem Wd.last (ho : ops[i]? = some ⟨some d, op, ty, pos, aft, none⟩) (hl : lastC ops i = true) (h : Ox P ⟨some d, op, ty, pos, aft, none⟩ ρ w fun v w' => Q (upd ρ d v) w') :
    Wd P ops Z Q (.alt i .done .stop) ρ w := ⟨⟨_, ho, by unfold Gx; exact h.mono fun _ _ hp => ⟨.inr hl, hp⟩⟩, trivial⟩
theorem Wd.last0 (ho : ops[i]? = some ⟨none, op, ty, pos, aft, none⟩) (hl : lastC ops i = true) (h : Ox P ⟨none, op, ty, pos, aft, none⟩ ρ w fun _ w' => Q ρ w') :
    Wd P ops Z Q (.alt i .done .stop) ρ w := ⟨⟨_, ho, by unfold Gx; exact h.mono fun _ _ hp => ⟨.inr hl, hp⟩⟩, trivial⟩
theorem Wd.lastN (ho : ops[i]? = some ⟨some d, op, ty, pos, aft, none⟩) (hl : lastC ops i = true) (h : Ox P ⟨some d, op, ty, pos, aft, none⟩ ρ w fun v w' => Wd P ops Z Q r (upd ρ d v) w') :
    Wd P ops Z Q (.alt i r .stop) ρ w := ⟨⟨_, ho, by unfold Gx; exact h.mono fun _ _ hp => ⟨.inr hl, hp⟩⟩, trivial⟩
theorem Wd.lastN0 (ho : ops[i]? = some ⟨none, op, ty, pos, aft, none⟩) (hl : lastC ops i = true) (h : Ox P ⟨none, op, ty, pos, aft, none⟩ ρ w fun _ w' => Wd P ops Z Q r ρ w') :
    Wd P ops Z Q (.alt i r .stop) ρ w := ⟨⟨_, ho, by unfold Gx; exact h.mono fun _ _ hp => ⟨.inr hl, hp⟩⟩, trivial⟩
theorem Wd.eff0 (ho : ops[i]? = some ⟨none, op, ty, pos, aft, none⟩) (h : Ox P ⟨none, op, ty, pos, aft, none⟩ ρ w (Pe Z w fun _ w' => Wd P ops Z Q r ρ w')) (k : Wd P ops Z Q m ρ w) :
    Wd P ops Z Q (.alt i r m) ρ w := ⟨⟨_, ho, by unfold Gx; exact h.mono fun _ _ hp => ⟨.inl hp.1, hp.2⟩⟩, k⟩
theorem Wd.pureY {a : Value} {j s : Nat} {b t : Bool} (ho : ops[i]? = some ⟨some d, op, ty, pos, aft, some (j, b)⟩) (hj : (ops[j]?).bind (·.dst) = some s) (hb : ρ s = .bool t) (ht : t = b)
    (h : ∀ w', FrZ w w' Z → Ox P ⟨some d, op, ty, pos, aft, some (j, b)⟩ ρ w' (Px a w')) (k : Wd P ops Z Q r (upd ρ d a) w) :
    Wd P ops Z Q (.pure i r) ρ w := ⟨_, a, ho, fun w' hw => by unfold Gx; exact ⟨s, hj, .inr ⟨t, hb, by rw [if_pos ht]; exact h w' hw⟩⟩, k⟩
theorem Wd.effY {j s : Nat} {b t : Bool} (ho : ops[i]? = some ⟨some d, op, ty, pos, aft, some (j, b)⟩) (hj : (ops[j]?).bind (·.dst) = some s) (hb : ρ s = .bool t) (ht : t = b)
    (h : Ox P ⟨some d, op, ty, pos, aft, some (j, b)⟩ ρ w (Pe Z w fun v w' => Wd P ops Z Q r (upd ρ d v) w')) (k : Wd P ops Z Q m ρ w) :
    Wd P ops Z Q (.alt i r m) ρ w := ⟨⟨_, ho, by unfold Gx; exact ⟨s, hj, .inr ⟨t, hb, by rw [if_pos ht]; exact h.mono fun _ _ hp => ⟨.inl hp.1, hp.2⟩⟩⟩⟩, k⟩
theorem Wd.eff0Y {j s : Nat} {b t : Bool} (ho : ops[i]? = some ⟨none, op, ty, pos, aft, some (j, b)⟩) (hj : (ops[j]?).bind (·.dst) = some s) (hb : ρ s = .bool t) (ht : t = b)
    (h : Ox P ⟨none, op, ty, pos, aft, some (j, b)⟩ ρ w (Pe Z w fun _ w' => Wd P ops Z Q r ρ w')) (k : Wd P ops Z Q m ρ w) :
    Wd P ops Z Q (.alt i r m) ρ w := ⟨⟨_, ho, by unfold Gx; exact ⟨s, hj, .inr ⟨t, hb, by rw [if_pos ht]; exact h.mono fun _ _ hp => ⟨.inl hp.1, hp.2⟩⟩⟩⟩, k⟩
theorem bne_of_not {t b : Bool} (h : t = !b) : ¬ t = b := by subst h; cases b <;> simp
theorem Wd.noP {j s : Nat} {b t : Bool} (ho : ops[i]? = some ⟨some d, op, ty, pos, aft, some (j, b)⟩) (hj : (ops[j]?).bind (·.dst) = some s) (hb : ρ s = .bool t) (ht : t = !b)
    (k : Wd P ops Z Q r (upd ρ d undef) w) : Wd P ops Z Q (.pure i r) ρ w :=
  ⟨_, undef, ho, fun w' _ => by unfold Gx; exact ⟨s, hj, .inr ⟨t, hb, by rw [if_neg (bne_of_not ht)]; exact ⟨rfl, rfl⟩⟩⟩, k⟩
theorem Wd.no {j s : Nat} {b t : Bool} (ho : ops[i]? = some ⟨some d, op, ty, pos, aft, some (j, b)⟩) (hj : (ops[j]?).bind (·.dst) = some s) (hb : ρ s = .bool t) (ht : t = !b)
    (h : Wd P ops Z Q r (upd ρ d undef) w) (k : Wd P ops Z Q m ρ w) : Wd P ops Z Q (.alt i r m) ρ w :=
  ⟨⟨_, ho, by unfold Gx; exact ⟨s, hj, .inr ⟨t, hb, by rw [if_neg (bne_of_not ht)]; exact ⟨.inl (FrZ.refl _ _), h⟩⟩⟩⟩, k⟩
theorem Wd.no0 {j s : Nat} {b t : Bool} (ho : ops[i]? = some ⟨none, op, ty, pos, aft, some (j, b)⟩) (hj : (ops[j]?).bind (·.dst) = some s) (hb : ρ s = .bool t) (ht : t = !b)
    (h : Wd P ops Z Q r ρ w) (k : Wd P ops Z Q m ρ w) : Wd P ops Z Q (.alt i r m) ρ w :=
  ⟨⟨_, ho, by unfold Gx; exact ⟨s, hj, .inr ⟨t, hb, by rw [if_neg (bne_of_not ht)]; exact ⟨.inl (FrZ.refl _ _), h⟩⟩⟩⟩, k⟩
theorem Wd.noUP {j s : Nat} {b : Bool} (ho : ops[i]? = some ⟨some d, op, ty, pos, aft, some (j, b)⟩) (hj : (ops[j]?).bind (·.dst) = some s) (hb : ρ s = undef)
    (k : Wd P ops Z Q r (upd ρ d undef) w) : Wd P ops Z Q (.pure i r) ρ w :=
  ⟨_, undef, ho, fun w' _ => by unfold Gx; exact ⟨s, hj, .inl ⟨hb, rfl, rfl⟩⟩, k⟩
theorem Wd.noU {j s : Nat} {b : Bool} (ho : ops[i]? = some ⟨some d, op, ty, pos, aft, some (j, b)⟩) (hj : (ops[j]?).bind (·.dst) = some s) (hb : ρ s = undef)
    (h : Wd P ops Z Q r (upd ρ d undef) w) (k : Wd P ops Z Q m ρ w) : Wd P ops Z Q (.alt i r m) ρ w :=
  ⟨⟨_, ho, by unfold Gx; exact ⟨s, hj, .inl ⟨hb, .inl (FrZ.refl _ _), h⟩⟩⟩, k⟩
theorem Wd.noU0 {j s : Nat} {b : Bool} (ho : ops[i]? = some ⟨none, op, ty, pos, aft, some (j, b)⟩) (hj : (ops[j]?).bind (·.dst) = some s) (hb : ρ s = undef)
    (h : Wd P ops Z Q r ρ w) (k : Wd P ops Z Q m ρ w) : Wd P ops Z Q (.alt i r m) ρ w :=
  ⟨⟨_, ho, by unfold Gx; exact ⟨s, hj, .inl ⟨hb, .inl (FrZ.refl _ _), h⟩⟩⟩, k⟩
theorem Wd.part {o : Oper} {j s : Nat} {b t : Bool} (_ho : ops[i]? = some o) (_hg : o.guard = some (j, b)) (_hj : (ops[j]?).bind (·.dst) = some s) (_hb : ρ s = .bool t)
    (h1 : t = true → Wd P ops Z Q (.alt i r m) ρ w) (h0 : t = false → Wd P ops Z Q (.alt i r m) ρ w) : Wd P ops Z Q (.alt i r m) ρ w := by
  cases t
  · exact h0 rfl
  · exact h1 rfl
theorem Wd.partP {o : Oper} {j s : Nat} {b t : Bool} (_ho : ops[i]? = some o) (_hg : o.guard = some (j, b)) (_hj : (ops[j]?).bind (·.dst) = some s) (_hb : ρ s = .bool t)
    (h1 : t = true → Wd P ops Z Q (.pure i r) ρ w) (h0 : t = false → Wd P ops Z Q (.pure i r) ρ w) : Wd P ops Z Q (.pure i r) ρ w := by
  cases t
  · exact h0 rfl
  · exact h1 rfl
end
end
attribute [irreducible] Px Pe Wd ZL ZP
end Go.Proofs.Ythpdpipcfhodoaa
