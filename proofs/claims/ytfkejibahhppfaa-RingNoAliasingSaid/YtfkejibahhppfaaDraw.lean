/- A region whose order is open, in one walk: the operations that change nothing, each wherever it may stand, between the calls that change the world, which stand in one order. No condition. -/
import Derived.Test.YtfkejibahhppfaaEng
namespace Go.Proofs.Ytfkejibahhppfaa
open Go.RowKit
set_option linter.unusedSimpArgs false
set_option linter.unusedVariables false

/-! ### A region whose order is open: one walk over its operations in an order of ours -/
def bdeps (ops : Array Oper) (i : Nat) : List Nat := match ops[i]? with
  | some o => (o.after.toList.filter fun e => Region.binds .any e).map (·.on)
  | none => []
def readsOk (ops : Array Oper) : Bool := (List.range ops.size).all fun i => match ops[i]? with
  | some o => (o.looksAt ops).all fun t => (List.range ops.size).all fun j => match ops[j]? with
    | some oj => oj.dst != some t || (bdeps ops i).contains j
    | none => true
  | none => true
def isSel : Op → Bool
  | .select _ _ => true
  | _ => false
def depsOk (ops : Array Oper) : List Nat → List (Nat × Bool) → Bool
  | _, [] => true
  | done, (i, _) :: r => (bdeps ops i).all (done.contains ·) && depsOk ops (i :: done) r
def chainOk (ops : Array Oper) : List (Nat × Bool) → Bool
  | [] => true
  | (i, b) :: r => (!b || r.all fun k => (bdeps ops k.1).any fun e => e == i || (r.map (·.1)).contains e) && chainOk ops r
def drawChk (n : Nat) (ops : Array Oper) (todo : List (Nat × Bool)) : Bool :=
  drawOk n ops && (readsOk ops && ((List.range ops.size).all (fun i => (todo.map (·.1)).contains i) && (decide (todo.map (·.1)).Nodup && (depsOk ops [] todo && (chainOk ops todo && ops.toList.all fun o => !isSel o.op)))))

def Wd (P : Program) (ops : Array Oper) (S : List Nat) (Q : Env → World → Prop) : List (Nat × Bool) → Env → World → Prop
  | [], ρ, w => Q ρ w
  | (i, true) :: rest, ρ, w => ∃ o, ops[i]? = some o ∧ Gx P ops o ρ w fun v w' => Fr w w' S ∧ Wd P ops S Q rest (putE ρ o.dst v) w'
  | (i, false) :: rest, ρ, w => ∃ o a, ops[i]? = some o ∧ (∀ w', Fr w w' S → Gx P ops o ρ w' fun v w'' => v = a ∧ w'' = w') ∧ Wd P ops S Q rest (putE ρ o.dst a) w

section
variable {P : Program} {n : Nat} {ops : Array Oper} {S : List Nat} {Q : Env → World → Prop}

theorem mem_bdeps {i e : Nat} {o : Oper} (ho : ops[i]? = some o) : e ∈ bdeps ops i ↔ ∃ x ∈ o.after, Region.binds .any x = true ∧ x.on = e := by
  simp [bdeps, ho, and_assoc]

/-- `ρ` and `ρ'` agree but on what the rest writes. -/
def Agr (ops : Array Oper) (rest : List (Nat × Bool)) (ρ ρ' : Env) : Prop := ∀ t, (∀ j b o, (j, b) ∈ rest → ops[j]? = some o → o.dst ≠ some t) → ρ' t = ρ t

/-- What is known of an operation that was walked. -/
def Known (P : Program) (ops : Array Oper) (S : List Nat) (w : World) (ρ : Env) (i : Nat) : Prop :=
  ∃ o a, ops[i]? = some o ∧ (∀ w', Fr w w' S → Gx P ops o ρ w' fun v w'' => v = a ∧ w'' = w') ∧ ∀ d, o.dst = some d → ρ d = a

structure TodoOk (ops : Array Oper) (todo : List (Nat × Bool)) : Prop where
  reads : ∀ (i : Nat) (o : Oper), ops[i]? = some o → ∀ t, t ∈ o.looksAt ops → ∀ (j : Nat) (oj : Oper), ops[j]? = some oj → oj.dst = some t → j ∈ bdeps ops i
  one : ∀ (i j : Nat) (o o' : Oper) (d : Nat), ops[i]? = some o → ops[j]? = some o' → o.dst = some d → o'.dst = some d → i = j
  all : ∀ i, i < ops.size → ∃ b, (i, b) ∈ todo
  nodup : (todo.map (·.1)).Nodup
  deps : ∀ l r, todo = l ++ r → ∀ i b, (i, b) ∈ l → ∀ e, e ∈ bdeps ops i → ∃ b', (e, b') ∈ l
  chain : ∀ l i r, todo = l ++ (i, true) :: r → ∀ k b, (k, b) ∈ r → ∃ e, e ∈ bdeps ops k ∧ (e = i ∨ ∃ b', (e, b') ∈ r)
  sel : ∀ (i : Nat) (o : Oper), ops[i]? = some o → ∀ cs b, o.op ≠ .select cs b
  self : ∀ i, i ∉ bdeps ops i

theorem depsOk_deps {todo : List (Nat × Bool)} : ∀ (l r : List (Nat × Bool)) (done : List Nat), depsOk ops done (l ++ r) = true → ∀ i b, (i, b) ∈ l → ∀ e, e ∈ bdeps ops i → e ∈ done ∨ ∃ b', (e, b') ∈ l := by
  intro l
  induction l with
  | nil => intro r done _ i b h; simp at h
  | cons x l ih =>
    obtain ⟨x, bx⟩ := x
    intro r done h i b hi e he
    simp only [List.cons_append, depsOk, Bool.and_eq_true, List.all_eq_true] at h
    rcases List.mem_cons.1 hi with h1 | h1
    · cases h1
      have := h.1 e he
      exact .inl (by simpa using this)
    · rcases ih r (x :: done) h.2 i b h1 e he with h2 | ⟨b', h2⟩
      · rcases List.mem_cons.1 h2 with rfl | h2
        · exact .inr ⟨bx, by simp⟩
        · exact .inl h2
      · exact .inr ⟨b', by simp [h2]⟩

theorem chainOk_chain : ∀ (l : List (Nat × Bool)) (i : Nat) (r : List (Nat × Bool)), chainOk ops (l ++ (i, true) :: r) = true → ∀ k b, (k, b) ∈ r → ∃ e, e ∈ bdeps ops k ∧ (e = i ∨ ∃ b', (e, b') ∈ r) := by
  intro l
  induction l with
  | nil =>
    intro i r h k b hk
    simp only [List.nil_append, chainOk, Bool.and_eq_true, Bool.not_true, Bool.false_or, List.all_eq_true] at h
    have := h.1 (k, b) hk
    rw [List.any_eq_true] at this
    obtain ⟨e, he, h1⟩ := this
    refine ⟨e, he, ?_⟩
    rw [Bool.or_eq_true] at h1
    rcases h1 with h1 | h1
    · exact .inl (by simpa using h1)
    · right; simpa using h1
  | cons x l ih =>
    obtain ⟨x, bx⟩ := x
    intro i r h
    simp only [List.cons_append, chainOk, Bool.and_eq_true] at h
    exact ih i r h.2

theorem TodoOk.of {todo : List (Nat × Bool)} (h : drawChk n ops todo = true) : drawOk n ops = true ∧ TodoOk ops todo := by
  simp only [drawChk, Bool.and_eq_true, decide_eq_true_eq] at h
  obtain ⟨h0, h1, h2, h3, h4, h5, h6⟩ := h
  refine ⟨h0, ?_, (DrawOk.of h0).one, ?_, h3, ?_, ?_, ?_, ?_⟩
  · intro i o ho t ht j oj hj hd
    unfold readsOk at h1
    rw [List.all_eq_true] at h1
    have := h1 i (List.mem_range.2 (Array.getElem?_eq_some_iff.1 ho).1)
    simp only [ho, List.all_eq_true] at this
    have := this t ht j (List.mem_range.2 (Array.getElem?_eq_some_iff.1 hj).1)
    simp only [hj, hd, bne_self_eq_false, Bool.false_or] at this
    simpa using this
  · intro i hi
    rw [List.all_eq_true] at h2
    have := h2 i (List.mem_range.2 hi)
    simpa using this
  · intro l r e i b hi x hx
    rw [e] at h4
    rcases depsOk_deps (todo := todo) l r [] h4 i b hi x hx with h | h
    · simp at h
    · exact h
  · intro l i r e
    rw [e] at h5
    exact chainOk_chain l i r h5
  · intro i o ho cs b e
    rw [List.all_eq_true] at h6
    have := h6 o (by simpa using Array.mem_of_getElem? ho)
    simp [e, isSel] at this
  · intro i hi
    cases ho : ops[i]? with
    | none => simp [bdeps, ho] at hi
    | some o =>
      obtain ⟨x, hx, hb, rfl⟩ := (mem_bdeps ho).1 hi
      have := (DrawOk.of h0).dep _ o ho x hx hb
      omega

theorem Known.agr {todo pre rest : List (Nat × Bool)} (hT : TodoOk ops todo) (ht : todo = pre ++ rest) {w w' : World} {ρ ρ' : Env} {i : Nat} {b : Bool} (hi : (i, b) ∈ pre) (hf : Fr w w' S) (ha : Agr ops rest ρ ρ') (h : Known P ops S w ρ i) : Known P ops S w' ρ' i := by
  obtain ⟨o, a, ho, hg, hd⟩ := h
  have hn := hT.nodup
  have dis : ∀ j b b', (j, b) ∈ pre → (j, b') ∈ rest → False := by
    intro j b b' h1 h2
    rw [ht, List.map_append, List.nodup_append] at hn
    exact hn.2.2 j (List.mem_map.2 ⟨_, h1, rfl⟩) j (List.mem_map.2 ⟨_, h2, rfl⟩) rfl
  refine ⟨o, a, ho, fun w2 hw2 => (hg w2 (hf.trans hw2)).congr (hT.sel i o ho) ?_, ?_⟩
  · intro t htt
    refine (ha t ?_).symm
    intro j b' oj hj hoj hdj
    have := hT.reads i o ho t htt j oj hoj hdj
    obtain ⟨b2, h2⟩ := hT.deps pre rest ht i b hi j this
    exact dis _ _ _ h2 hj
  · intro d hdd
    rw [ha d ?_]; exact hd d hdd
    intro j b' oj hj hoj hdj
    have := hT.one i j o oj d ho hoj hdd hdj
    subst this
    exact dis _ _ _ hi hj

/-- Walks on over the operations that change nothing. -/
theorem Wd.norm {todo : List (Nat × Bool)} (hT : TodoOk ops todo) : ∀ (l pre : List (Nat × Bool)) (ρ : Env) (w : World), todo = pre ++ l → Wd P ops S Q l ρ w →
    (∀ i, (i, false) ∈ pre → Known P ops S w ρ i) →
    ∃ mid rest ρ', l = mid ++ rest ∧ (rest = [] ∨ ∃ e r, rest = (e, true) :: r) ∧ (∀ i b, (i, b) ∈ mid → b = false) ∧ Wd P ops S Q rest ρ' w ∧
      (∀ i, (i, false) ∈ pre ++ mid → Known P ops S w ρ' i) ∧ Agr ops l ρ ρ' := by
  intro l
  induction l with
  | nil => intro pre ρ w ht h hk; exact ⟨[], [], ρ, rfl, .inl rfl, by simp, h, by simpa using hk, fun _ _ => rfl⟩
  | cons x l ih =>
    obtain ⟨i, b⟩ := x
    intro pre ρ w ht h hk
    cases b with
    | true => exact ⟨[], (i, true) :: l, ρ, rfl, .inr ⟨i, l, rfl⟩, by simp, h, by simpa using hk, fun _ _ => rfl⟩
    | false =>
      obtain ⟨o, a, ho, hg, hw⟩ := h
      have hag : Agr ops ((i, false) :: l) ρ (putE ρ o.dst a) := by
        intro t h1
        have := h1 i false o (by simp) ho
        cases hd : o.dst with
        | none => rfl
        | some d => simp only [putE, upd_if]; rw [if_neg]; rintro rfl; exact this hd
      have hdep : ∀ t, t ∈ o.looksAt ops → putE ρ o.dst a t = ρ t := by
        intro t htt
        cases hd : o.dst with
        | none => rfl
        | some d =>
          simp only [putE, upd_if]; rw [if_neg]; rintro rfl
          exact hT.self i (hT.reads i o ho _ htt i o ho hd)
      have hk1 : Known P ops S w (putE ρ o.dst a) i := ⟨o, a, ho, fun w2 hw2 => (hg w2 hw2).congr (hT.sel i o ho) fun t ht => (hdep t ht).symm, fun d hd => by simp [hd, putE, upd_if]⟩
      have hk2 : ∀ k, (k, false) ∈ pre ++ [(i, false)] → Known P ops S w (putE ρ o.dst a) k := by
        intro k hkm
        rcases List.mem_append.1 hkm with h1 | h1
        · exact (hk k h1).agr hT ht h1 (Fr.refl _ _) hag
        · simp at h1; subst h1; exact hk1
      obtain ⟨mid, rest, ρ', e1, e2, e3, e4, e5, e6⟩ := ih (pre ++ [(i, false)]) (putE ρ o.dst a) w (by simp [ht]) hw hk2
      refine ⟨(i, false) :: mid, rest, ρ', by simp [e1], e2, ?_, e4, by simpa using e5, ?_⟩
      · intro k b hkb
        rcases List.mem_cons.1 hkb with h1 | h1
        · cases h1; rfl
        · exact e3 k b h1
      · intro t h1
        rw [e6 t fun j b oj hj hoj => h1 j b oj (by simp [hj]) hoj]
        exact hag t h1

structure DInv (P : Program) (ops : Array Oper) (S : List Nat) (Q : Env → World → Prop) (todo : List (Nat × Bool)) (ρ₀ : Env) (D : Nat → Prop) (ρ' : Env) (w' : World) : Prop where
  ex : ∃ pre rest ρk, todo = pre ++ rest ∧ (rest = [] ∨ ∃ e r, rest = (e, true) :: r) ∧ Wd P ops S Q rest ρk w' ∧ (∀ i, (i, false) ∈ pre → Known P ops S w' ρk i) ∧
    (∀ i, (i, true) ∈ pre → D i) ∧ (∀ i, D i → ∃ b, (i, b) ∈ pre) ∧ (∀ j o d, D j → ops[j]? = some o → o.dst = some d → ρ' d = ρk d) ∧
    (∀ t, (∀ (j : Nat) o, ops[j]? = some o → o.dst ≠ some t) → ρ' t = ρk t)

theorem mem_uniq {l : List (Nat × Bool)} (hn : (l.map (·.1)).Nodup) {i : Nat} {b b' : Bool} (h : (i, b) ∈ l) (h' : (i, b') ∈ l) : b = b' := by
  induction l with
  | nil => simp at h
  | cons x l ih =>
    obtain ⟨x, bx⟩ := x
    rw [List.map_cons, List.nodup_cons] at hn
    rcases List.mem_cons.1 h with h1 | h1 <;> rcases List.mem_cons.1 h' with h2 | h2
    · cases h1; cases h2; rfl
    · cases h1; exact absurd (List.mem_map.2 ⟨_, h2, rfl⟩) hn.1
    · cases h2; exact absurd (List.mem_map.2 ⟨_, h1, rfl⟩) hn.1
    · exact ih hn.2 h1 h2

theorem Wp.drawS {id : Nat} {ρ : Env} {w : World} {Q : Exit → Env → World → Prop} (S : List Nat) (todo : List (Nat × Bool)) (hm : P.follows .mixedOrders = true) (hchk : drawChk n ops todo = true)
    (h : ∀ w1, w1.heap = w.heap → Fr w w1 [] → Wd P ops S (Q .normal) todo ρ w1) : Wp P n (.region id ops true) ρ w Q := by
  obtain ⟨hok, hT⟩ := TodoOk.of hchk
  have hn := hT.nodup
  refine Wp.drawI (DInv P ops S (Q .normal) todo ρ) hm hok ?_ ?_ ?_
  · obtain ⟨mid, rest, ρ', e1, e2, e3, e4, e5, e6⟩ := Wd.norm hT todo [] ρ w.drew rfl (h w.drew rfl (Fr.refl w []).drew) (by simp)
    refine ⟨mid, rest, ρ', e1, e2, e4, by simpa using e5, ?_, ?_, ?_, ?_⟩
    · intro i hi; exact absurd (e3 i true hi) (by simp)
    · intro i hi; exact hi.elim
    · intro j o d hj; exact hj.elim
    · intro t ht; exact (e6 t fun j b o _ ho => ht j o ho).symm
  · rintro D ρ' w' i o ho hnD hdep ⟨pre, rest, ρk, ht, hr, hw, hk, hE, hD, hag, hag0⟩
    have hD' : ∀ e, e ∈ bdeps ops i → D e := by
      intro e he
      obtain ⟨x, hx, hb, rfl⟩ := (mem_bdeps ho).1 he
      exact hdep x hx hb
    have hlook : ∀ t, t ∈ o.looksAt ops → ρk t = ρ' t := by
      intro t htt
      by_cases hex : ∃ (j : Nat) (oj : Oper), ops[j]? = some oj ∧ oj.dst = some t
      · obtain ⟨j, oj, hj, hd⟩ := hex
        exact (hag j oj t (hD' j (hT.reads i o ho t htt j oj hj hd)) hj hd).symm
      · exact (hag0 t fun j oj hj hd => hex ⟨j, oj, hj, hd⟩).symm
    have dis : ∀ j b b', (j, b) ∈ pre → (j, b') ∈ rest → False := by
      intro j b b' h1 h2
      rw [ht, List.map_append, List.nodup_append] at hn
      exact hn.2.2 j (List.mem_map.2 ⟨_, h1, rfl⟩) j (List.mem_map.2 ⟨_, h2, rfl⟩) rfl
    obtain ⟨b, hb⟩ := hT.all i (Array.getElem?_eq_some_iff.1 ho).1
    rw [ht] at hb
    rcases List.mem_append.1 hb with hp | hp
    · cases b with
      | true => exact absurd (hE i hp) hnD
      | false =>
        obtain ⟨o', a, ho', hg, hd⟩ := hk i hp
        rw [ho] at ho'; cases ho'
        refine ((hg w' (Fr.refl _ _)).congr (hT.sel i o ho) hlook).mono ?_
        rintro v w'' ⟨rfl, rfl⟩
        refine ⟨pre, rest, ρk, ht, hr, hw, hk, fun k h1 => .inr (hE k h1), ?_, ?_, ?_⟩
        · rintro k (rfl | h1)
          · exact ⟨_, hp⟩
          · exact hD k h1
        · rintro k ok d hkD hok' hkd
          by_cases e : k = i
          · subst e
            rw [ho] at hok'; cases hok'
            simp only [putE, hkd, upd_if, if_true]
            exact (hd d hkd).symm
          · have h1 := hag k ok d (hkD.resolve_left e) hok' hkd
            cases hdo : o.dst with
            | none => exact h1
            | some d' =>
              simp only [putE, upd_if]; rw [if_neg]; exact h1
              rintro rfl
              exact e (hT.one k i ok o _ hok' ho hkd hdo)
        · intro t ht'
          have h1 := hag0 t ht'
          cases hdo : o.dst with
          | none => exact h1
          | some d' =>
            simp only [putE, upd_if]; rw [if_neg]; exact h1
            rintro rfl
            exact ht' i o ho hdo
    · rcases hr with rfl | ⟨e, r, rfl⟩
      · simp at hp
      have hie : i = e ∧ b = true := by
        rcases List.mem_cons.1 hp with h1 | h1
        · cases h1; exact ⟨rfl, rfl⟩
        · exfalso
          obtain ⟨x, hx, h2⟩ := hT.chain pre e r ht i b h1
          obtain ⟨b2, h3⟩ := hD x (hD' x hx)
          rcases h2 with rfl | ⟨b3, h2⟩
          · exact dis _ _ true h3 (by simp)
          · exact dis _ _ b3 h3 (by simp [h2])
      obtain ⟨rfl, rfl⟩ := hie
      obtain ⟨o', ho', hg⟩ := hw
      rw [ho] at ho'; cases ho'
      refine (hg.congr (hT.sel i o ho) hlook).mono ?_
      rintro v w'' ⟨hf, hw2⟩
      have hagE : Agr ops ((i, true) :: r) ρk (putE ρk o.dst v) := by
        intro t h1
        have := h1 i true o (by simp) ho
        cases hd : o.dst with
        | none => rfl
        | some d => simp only [putE, upd_if]; rw [if_neg]; rintro rfl; exact this hd
      have hk2 : ∀ k, (k, false) ∈ pre ++ [(i, true)] → Known P ops S w'' (putE ρk o.dst v) k := by
        intro k hkm
        have : (k, false) ∈ pre := by simpa using hkm
        exact (hk k this).agr hT ht this hf hagE
      obtain ⟨mid, rest, ρ2, e1, e2, e3, e4, e5, e6⟩ := Wd.norm hT r (pre ++ [(i, true)]) (putE ρk o.dst v) w'' (by simp [ht]) hw2 hk2
      refine ⟨pre ++ (i, true) :: mid, rest, ρ2, by simp [ht, e1], e2, e4, by simpa using e5, ?_, ?_, ?_, ?_⟩
      · intro k hkm
        rcases List.mem_append.1 hkm with h1 | h1
        · exact .inr (hE k h1)
        · rcases List.mem_cons.1 h1 with h1 | h1
          · cases h1; exact .inl rfl
          · exact absurd (e3 k true h1) (by simp)
      · rintro k (rfl | h1)
        · exact ⟨true, by simp⟩
        · obtain ⟨b, hb⟩ := hD k h1; exact ⟨b, by simp [hb]⟩
      · rintro k ok d hkD hok' hkd
        have hkp : k = i ∨ ∃ b, (k, b) ∈ pre := hkD.imp (fun e => e) (hD k)
        have h2 : ρ2 d = putE ρk o.dst v d := by
          refine e6 d ?_
          intro j b oj hj hoj hdj
          have := hT.one k j ok oj d hok' hoj hkd hdj
          subst this
          rcases hkp with rfl | ⟨b', hb'⟩
          · have h3 := hn
            rw [ht, List.map_append, List.map_cons, List.nodup_append, List.nodup_cons] at h3
            exact h3.2.1.1 (List.mem_map.2 ⟨_, hj, rfl⟩)
          · exact dis _ _ b hb' (by simp [hj])
        rw [h2]
        by_cases e : k = i
        · subst e
          rw [ho] at hok'; cases hok'
          simp [putE, hkd, upd_if]
        · have h1 := hag k ok d (hkD.resolve_left e) hok' hkd
          cases hdo : o.dst with
          | none => exact h1
          | some d' =>
            have : d ≠ d' := by
              rintro rfl
              exact e (hT.one k i ok o _ hok' ho hkd hdo)
            simp only [putE, upd_if]; rw [if_neg this, if_neg this]; exact h1
      · intro t ht'
        have h1 := hag0 t ht'
        rw [e6 t fun j b oj _ hoj => ht' j oj hoj]
        cases hdo : o.dst with
        | none => exact h1
        | some d' =>
          have : t ≠ d' := by rintro rfl; exact ht' i o ho hdo
          simp only [putE, upd_if]; rw [if_neg this, if_neg this]; exact h1
  · rintro D ρ' w' hall ⟨pre, rest, ρk, ht, hr, hw, hk, hE, hD, hag, hag0⟩
    have hre : rest = [] := by
      rcases hr with h1 | ⟨e, r, rfl⟩
      · exact h1
      · exfalso
        obtain ⟨o, ho, _⟩ := hw
        obtain ⟨b, hb⟩ := hD e (hall e (Array.getElem?_eq_some_iff.1 ho).1)
        rw [ht, List.map_append, List.nodup_append] at hn
        exact hn.2.2 e (List.mem_map.2 ⟨_, hb, rfl⟩) e (by simp) rfl
    subst hre
    have : ρ' = ρk := by
      funext t
      by_cases hex : ∃ (j : Nat) (oj : Oper), ops[j]? = some oj ∧ oj.dst = some t
      · obtain ⟨j, oj, hj, hd⟩ := hex
        exact hag j oj t (hall j (Array.getElem?_eq_some_iff.1 hj).1) hj hd
      · exact hag0 t fun j oj hj hd => hex ⟨j, oj, hj, hd⟩
    rw [this]
    exact hw

/-- The end of an operation that changes nothing. -/
def Px (a : Value) (w : World) (v : Value) (w' : World) : Prop := v = a ∧ w' = w
theorem Px.mk {a : Value} {w : World} : Px a w a w := ⟨rfl, rfl⟩
/-- The end of an operation that may change the blocks `S`. -/
def Pe (S : List Nat) (w : World) (K : Value → World → Prop) (v : Value) (w' : World) : Prop := Fr w w' S ∧ K v w'
theorem Pe.mk {S : List Nat} {w w' : World} {K : Value → World → Prop} {v : Value} (h : Fr w w' S) (k : K v w') : Pe S w K v w' := ⟨h, k⟩

section
variable {rest : List (Nat × Bool)} {ρ : Env} {w : World} {i : Nat} {d : Nat} {op : Op} {ty : TypeId} {pos : String} {aft : Array Edge}
theorem Wd.nil (h : Q ρ w) : Wd P ops S Q [] ρ w := h
theorem Wd.pure {a : Value} (ho : ops[i]? = some ⟨some d, op, ty, pos, aft, none⟩) (h : ∀ w', Fr w w' S → Ox P ⟨some d, op, ty, pos, aft, none⟩ ρ w' (Px a w')) (k : Wd P ops S Q rest (upd ρ d a) w) :
    Wd P ops S Q ((i, false) :: rest) ρ w := ⟨_, a, ho, fun w' hw => by unfold Gx; exact h w' hw, k⟩
theorem Wd.eff (ho : ops[i]? = some ⟨some d, op, ty, pos, aft, none⟩) (h : Ox P ⟨some d, op, ty, pos, aft, none⟩ ρ w (Pe S w fun v w' => Wd P ops S Q rest (upd ρ d v) w')) :
    Wd P ops S Q ((i, true) :: rest) ρ w := ⟨_, ho, by unfold Gx; exact h⟩
theorem Wd.eff0 (ho : ops[i]? = some ⟨none, op, ty, pos, aft, none⟩) (h : Ox P ⟨none, op, ty, pos, aft, none⟩ ρ w (Pe S w fun _ w' => Wd P ops S Q rest ρ w')) :
    Wd P ops S Q ((i, true) :: rest) ρ w := ⟨_, ho, by unfold Gx; exact h⟩
theorem Wd.pureY {a : Value} {j s : Nat} {b t : Bool} (ho : ops[i]? = some ⟨some d, op, ty, pos, aft, some (j, b)⟩) (hj : (ops[j]?).bind (·.dst) = some s) (hb : ρ s = .bool t) (ht : t = b)
    (h : ∀ w', Fr w w' S → Ox P ⟨some d, op, ty, pos, aft, some (j, b)⟩ ρ w' (Px a w')) (k : Wd P ops S Q rest (upd ρ d a) w) :
    Wd P ops S Q ((i, false) :: rest) ρ w := ⟨_, a, ho, fun w' hw => by unfold Gx; exact ⟨s, hj, .inr ⟨t, hb, by rw [if_pos ht]; exact h w' hw⟩⟩, k⟩
theorem Wd.effY {j s : Nat} {b t : Bool} (ho : ops[i]? = some ⟨some d, op, ty, pos, aft, some (j, b)⟩) (hj : (ops[j]?).bind (·.dst) = some s) (hb : ρ s = .bool t) (ht : t = b)
    (h : Ox P ⟨some d, op, ty, pos, aft, some (j, b)⟩ ρ w (Pe S w fun v w' => Wd P ops S Q rest (upd ρ d v) w')) :
    Wd P ops S Q ((i, true) :: rest) ρ w := ⟨_, ho, by unfold Gx; exact ⟨s, hj, .inr ⟨t, hb, by rw [if_pos ht]; exact h⟩⟩⟩
theorem Wd.eff0Y {j s : Nat} {b t : Bool} (ho : ops[i]? = some ⟨none, op, ty, pos, aft, some (j, b)⟩) (hj : (ops[j]?).bind (·.dst) = some s) (hb : ρ s = .bool t) (ht : t = b)
    (h : Ox P ⟨none, op, ty, pos, aft, some (j, b)⟩ ρ w (Pe S w fun _ w' => Wd P ops S Q rest ρ w')) :
    Wd P ops S Q ((i, true) :: rest) ρ w := ⟨_, ho, by unfold Gx; exact ⟨s, hj, .inr ⟨t, hb, by rw [if_pos ht]; exact h⟩⟩⟩
theorem bne_of_not {t b : Bool} (h : t = !b) : ¬ t = b := by subst h; cases b <;> simp
theorem Wd.no {e : Bool} {j s : Nat} {b t : Bool} (ho : ops[i]? = some ⟨some d, op, ty, pos, aft, some (j, b)⟩) (hj : (ops[j]?).bind (·.dst) = some s) (hb : ρ s = .bool t) (ht : t = !b)
    (k : Wd P ops S Q rest (upd ρ d undef) w) : Wd P ops S Q ((i, e) :: rest) ρ w := by
  cases e with
  | true => exact ⟨_, ho, by unfold Gx; exact ⟨s, hj, .inr ⟨t, hb, by rw [if_neg (bne_of_not ht)]; exact ⟨Fr.refl _ _, k⟩⟩⟩⟩
  | false => exact ⟨_, undef, ho, fun w' _ => by unfold Gx; exact ⟨s, hj, .inr ⟨t, hb, by rw [if_neg (bne_of_not ht)]; exact ⟨rfl, rfl⟩⟩⟩, k⟩
theorem Wd.no0 {j s : Nat} {b t : Bool} (ho : ops[i]? = some ⟨none, op, ty, pos, aft, some (j, b)⟩) (hj : (ops[j]?).bind (·.dst) = some s) (hb : ρ s = .bool t) (ht : t = !b)
    (k : Wd P ops S Q rest ρ w) : Wd P ops S Q ((i, true) :: rest) ρ w :=
  ⟨_, ho, by unfold Gx; exact ⟨s, hj, .inr ⟨t, hb, by rw [if_neg (bne_of_not ht)]; exact ⟨Fr.refl _ _, k⟩⟩⟩⟩
theorem Wd.noU {e : Bool} {j s : Nat} {b : Bool} (ho : ops[i]? = some ⟨some d, op, ty, pos, aft, some (j, b)⟩) (hj : (ops[j]?).bind (·.dst) = some s) (hb : ρ s = undef)
    (k : Wd P ops S Q rest (upd ρ d undef) w) : Wd P ops S Q ((i, e) :: rest) ρ w := by
  cases e with
  | true => exact ⟨_, ho, by unfold Gx; exact ⟨s, hj, .inl ⟨hb, Fr.refl _ _, k⟩⟩⟩
  | false => exact ⟨_, undef, ho, fun w' _ => by unfold Gx; exact ⟨s, hj, .inl ⟨hb, rfl, rfl⟩⟩, k⟩
theorem Wd.part {e : Bool} {o : Oper} {j s : Nat} {b t : Bool} (_ho : ops[i]? = some o) (_hg : o.guard = some (j, b)) (_hj : (ops[j]?).bind (·.dst) = some s) (_hb : ρ s = .bool t)
    (h1 : t = true → Wd P ops S Q ((i, e) :: rest) ρ w) (h0 : t = false → Wd P ops S Q ((i, e) :: rest) ρ w) : Wd P ops S Q ((i, e) :: rest) ρ w := by
  cases t
  · exact h0 rfl
  · exact h1 rfl
end
end
attribute [irreducible] Px Pe Wd
end Go.Proofs.Ytfkejibahhppfaa
