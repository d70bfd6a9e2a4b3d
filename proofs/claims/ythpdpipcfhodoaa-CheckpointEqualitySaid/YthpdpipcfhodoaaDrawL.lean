/- Regions whose order is open and whose last operation writes what the others read. No condition. -/
import Derived.Test.YthpdpipcfhodoaaDraw
namespace Go.Proofs.Ythpdpipcfhodoaa
open Go.RowKit
set_option linter.unusedSimpArgs false
set_option maxHeartbeats 4000000
set_option linter.unusedVariables false

section
variable {P : Program} {n : Nat} {ops : Array Oper} {Z : Nat → Prop} {Q : Env → World → Prop}
theorem DInv.start {ρ : Env} {w : World} {td : Td} (hT : OpsOk ops) (hch : td.chk ops [] true = true) (h : Wd P ops Z Q td ρ w.drew) : DInv P ops Z Q (fun _ => False) ρ w.drew := by
  obtain ⟨pre', td', ρ', e1, e2, e3, e4, e5⟩ := At.norm hT td [] ρ w.drew ⟨by simpa using hch, h, by simp, by simp, by simp⟩
  refine ⟨pre', td', ρ', e1, e2, ?_, ?_, ?_, ?_⟩
  · intro i hi; exact absurd (e4 i hi) (by simp)
  · intro i hi; exact hi.elim
  · intro j o d hj; exact hj.elim
  · intro t ht; exact (e5 t fun j o _ ho => ht j o ho).symm
theorem DInv.step (hT : OpsOk ops) : ∀ (D : Nat → Prop) (ρ' : Env) (w' : World) (i : Nat) (o : Oper), ops[i]? = some o → ¬ D i → (∀ e ∈ o.after, Region.binds .any e = true → D e.on) → DInv P ops Z Q D ρ' w' →
      Gx P ops o ρ' w' fun v w'' => DInv P ops Z Q (fun j => j = i ∨ D j) (putE ρ' o.dst v) w'' := by
  rintro D ρ' w' i o ho hnD hdep ⟨pre, td, ρk, hat, hr, hE, hD, hag, hag0⟩
  have hD' : ∀ e, e ∈ bdeps ops i → D e := by
    intro e he
    obtain ⟨x, hx, hb, rfl⟩ := (mem_bdeps ho).1 he
    exact hdep x hx hb
  have hlook : ∀ t, t ∈ o.looksAt ops → ρk t = ρ' t := by
    intro t htt
    by_cases hex : ∃ (j : Nat) (oj : Oper), ops[j]? = some oj ∧ oj.dst = some t
    · obtain ⟨j, oj, hj, hd⟩ := hex
      exact (hag j oj t (hD' j (hT.reads i o ho t htt j oj hj hd)) hj hd).symm
    · exact (hag0 t fun j oj hj hd => hex ⟨j, oj, hj, hd⟩).symm
  by_cases hp : i ∈ pre.map (·.1)
  · obtain ⟨⟨i', b⟩, hp2, rfl⟩ := List.mem_map.1 hp
    clear hp
    have hp := hp2
    cases b with
    | true => exact absurd (hE i' hp) hnD
    | false =>
      obtain ⟨o', a, ho', hg, hd⟩ := hat.known i' hp
      rw [ho] at ho'; cases ho'
      refine ((hg w' (FrZ.refl _ _)).congr (hT.sel i' o ho) hlook).mono ?_
      rintro v w'' ⟨rfl, rfl⟩
      refine ⟨pre, td, ρk, hat, hr, fun k h1 => .inr (hE k h1), ?_, ?_, ?_⟩
      · rintro k (rfl | h1)
        · exact ⟨_, hp⟩
        · exact hD k h1
      · rintro k ok d hkD hok' hkd
        by_cases e : k = i'
        · subst e
          rw [ho] at hok'; cases hok'
          simp only [putE, hkd, upd_if, if_true]
          exact (hd d hkd).symm
        · have h1 := hag k ok d (hkD.resolve_left e) hok' hkd
          cases hdo : o.dst with
          | none => exact h1
          | some d' =>
            simp only [putE, upd_if]; rw [if_neg]; exact h1
            rintro rfl
            exact e (hT.one k i' ok o _ hok' ho hkd hdo)
      · intro t ht'
        have h1 := hag0 t ht'
        cases hdo : o.dst with
        | none => exact h1
        | some d' =>
          simp only [putE, upd_if]; rw [if_neg]; exact h1
          rintro rfl
          exact ht' i' o ho hdo
  · have hlt : i < ops.size := (Array.getElem?_eq_some_iff.1 ho).1
    have hDp : ∀ e, e ∈ bdeps ops i → e ∈ pre.map (·.1) := fun e he => by
      obtain ⟨b, hb⟩ := hD e (hD' e he)
      exact List.mem_map.2 ⟨_, hb, rfl⟩
    have hh : i ∈ td.heads := by
      have hc := hat.chk
      rcases hr with rfl | ⟨k, t, m, rfl⟩
      · exfalso
        simp only [Td.chk, Bool.true_and, List.all_eq_true] at hc
        have := hc i (List.mem_range.2 hlt)
        exact hp (by simpa using this)
      · simp only [Td.chk, Bool.and_eq_true, Bool.or_eq_true, Bool.not_eq_true', Bool.true_eq_false, false_or] at hc
        have h1 := hc.1
        unfold headsOk at h1
        rw [List.all_eq_true] at h1
        have h2 := h1 i (List.mem_range.2 hlt)
        rw [Bool.or_eq_true, Bool.or_eq_true] at h2
        rcases h2 with (h2 | h2) | h2
        · exact absurd (by simpa using h2) hp
        · simpa [Td.heads] using h2
        · exfalso
          rw [List.any_eq_true] at h2
          obtain ⟨e, he, h3⟩ := h2
          have := hDp e he
          rw [Bool.not_eq_true'] at h3
          have h4 : (pre.map (·.1)).contains e = true := by simpa using this
          rw [h3] at h4; simp at h4
    obtain ⟨t, hiD, hdeps, hct, o', ho', hg⟩ := Wd.get td _ true ρk w' i hat.chk hat.wd hh
    rw [ho] at ho'; cases ho'
    refine (hg.congr (hT.sel i o ho) hlook).mono ?_
    rintro v w'' ⟨hf, hw2⟩
    have hagE := Agr.put hT ho hiD ρk v
    obtain ⟨pre0, hp1, hp2, hp3, hat2⟩ : ∃ pre0 : List (Nat × Bool), pre0.map (·.1) = pre.map (·.1) ∧ (∀ k, (k, true) ∈ pre0 → D k) ∧ (∀ k b, (k, b) ∈ pre → ∃ b', (k, b') ∈ pre0) ∧ At P ops Z Q ((i, true) :: pre0) t (putE ρk o.dst v) w'' := by
      rcases hf with hf | hlast
      · refine ⟨pre, rfl, fun k hk => hE k hk, fun k b hk => ⟨b, hk⟩, by simpa using hct, hw2, ?_, ?_, by simpa using ⟨by simpa using hiD, hat.nodup⟩⟩
        · intro k hk
          have : (k, false) ∈ pre := by simpa using hk
          exact (hat.known k this).agr hT hat.closed (List.mem_map.2 ⟨_, this, rfl⟩) hf hagE
        · intro k hk e he
          simp only [List.map_cons, List.mem_cons] at hk ⊢
          rcases hk with rfl | hk
          · exact .inr (hDp e he)
          · exact .inr (hat.closed k hk e he)
      · have hmap : (pre.map fun x => (x.1, true)).map (·.1) = pre.map (·.1) := by simp
        refine ⟨pre.map fun x => (x.1, true), hmap, fun k hk => ?_, fun k b hk => ⟨true, List.mem_map.2 ⟨_, hk, rfl⟩⟩, by rw [List.map_cons, hmap]; simpa using hct, hw2, ?_, ?_, by rw [List.map_cons, hmap]; simpa using ⟨by simpa using hiD, hat.nodup⟩⟩
        · obtain ⟨⟨k', b⟩, hkp, hke⟩ := List.mem_map.1 hk
          simp only [Prod.mk.injEq, and_true] at hke
          subst hke
          cases b with
          | true => exact hE _ hkp
          | false =>
            obtain ⟨ok, a, hok, -⟩ := hat.known _ hkp
            unfold lastB at hlast
            rw [List.all_eq_true] at hlast
            have h2 := hlast k' (List.mem_range.2 (Array.getElem?_eq_some_iff.1 hok).1)
            rw [Bool.or_eq_true] at h2
            rcases h2 with h2 | h2
            · have : k' = i := by simpa using h2
              subst this
              exact absurd (List.mem_map.2 ⟨_, hkp, rfl⟩) hiD
            · exact hD' k' (by simpa using h2)
        · intro k hk
          exfalso
          rcases List.mem_cons.1 hk with hk | hk
          · simp at hk
          · obtain ⟨x, -, hx⟩ := List.mem_map.1 hk
            simp at hx
        · intro k hk e he
          rw [List.map_cons, hmap] at hk ⊢
          simp only [List.mem_cons] at hk ⊢
          rcases hk with rfl | hk
          · exact .inr (hDp e he)
          · exact .inr (hat.closed k hk e he)
    obtain ⟨pre', td', ρ2, e1, e2, e3, e4, e5⟩ := At.norm hT t _ _ _ hat2
    · refine ⟨pre', td', ρ2, e1, e2, ?_, ?_, ?_, ?_⟩
      · intro k hk
        rcases List.mem_cons.1 (e4 k hk) with h1 | h1
        · cases h1; exact .inl rfl
        · exact .inr (hp2 k h1)
      · rintro k (rfl | h1)
        · exact ⟨true, e3 _ (by simp)⟩
        · obtain ⟨b, hb⟩ := hD k h1
          obtain ⟨b', hb'⟩ := hp3 k b hb
          exact ⟨b', e3 _ (by simp [hb'])⟩
      · rintro k ok d hkD hok' hkd
        have hkp : k ∈ ((i, true) :: pre0).map (·.1) := by
          rcases hkD with rfl | h1
          · simp
          · obtain ⟨b, hb⟩ := hD k h1
            obtain ⟨b', hb'⟩ := hp3 k b hb
            exact List.mem_map.2 ⟨(k, b'), by simp [hb'], rfl⟩
        have h2 : ρ2 d = putE ρk o.dst v d := by
          refine e5 d ?_
          intro j oj hj hoj hdj
          have := hT.one k j ok oj d hok' hoj hkd hdj
          subst this
          exact hj hkp
        rw [h2]
        by_cases e : k = i
        · subst e
          rw [ho] at hok'; cases hok'
          simp [putE, hkd, upd_if]
        · have h1 := hag k ok d (hkD.resolve_left e) hok' hkd
          cases hdo : o.dst with
          | none => exact h1
          | some d' =>
            have : d ≠ d' := by
              rintro rfl
              exact e (hT.one k i ok o _ hok' ho hkd hdo)
            simp only [putE, upd_if]; rw [if_neg this, if_neg this]; exact h1
      · intro t' ht'
        have h1 := hag0 t' ht'
        rw [e5 t' fun j oj _ hoj => ht' j oj hoj]
        cases hdo : o.dst with
        | none => exact h1
        | some d' =>
          have : t' ≠ d' := by rintro rfl; exact ht' i o ho hdo
          simp only [putE, upd_if]; rw [if_neg this, if_neg this]; exact h1
theorem DInv.finish (hT : OpsOk ops) : ∀ (D : Nat → Prop) (ρ' : Env) (w' : World), (∀ i, i < ops.size → D i) → DInv P ops Z Q D ρ' w' → Q ρ' w' := by
  rintro D ρ' w' hall ⟨pre, td, ρk, hat, hr, hE, hD, hag, hag0⟩
  have hd : td = .done := by
    rcases hr with h1 | ⟨i, t, m, rfl⟩
    · exact h1
    · exfalso
      obtain ⟨t', hiD, _, _, o, ho, _⟩ := Wd.get _ _ true ρk w' i hat.chk hat.wd (by simp [Td.heads])
      obtain ⟨b, hb⟩ := hD i (hall i (Array.getElem?_eq_some_iff.1 ho).1)
      exact hiD (List.mem_map.2 ⟨_, hb, rfl⟩)
  subst hd
  have : ρ' = ρk := by
    funext t
    by_cases hex : ∃ (j : Nat) (oj : Oper), ops[j]? = some oj ∧ oj.dst = some t
    · obtain ⟨j, oj, hj, hd⟩ := hex
      exact hag j oj t (hall j (Array.getElem?_eq_some_iff.1 hj).1) hj hd
    · exact hag0 t fun j oj hj hd => hex ⟨j, oj, hj, hd⟩
  rw [this]
  exact hat.wd.out
end
inductive Snoc {α : Type} : List α → List α → α → Prop
  | one (a : α) : Snoc [a] [] a
  | cons {l l0 : List α} {x : α} (a : α) (h : Snoc l l0 x) : Snoc (a :: l) (a :: l0) x
theorem Snoc.eq {α : Type} {l l0 : List α} {x : α} (h : Snoc l l0 x) : l = l0 ++ [x] := by
  induction h with
  | one a => rfl
  | cons a h ih => rw [ih]; rfl
def drawChkL (n : Nat) (l l0 : List Oper) (td : Td) : Bool :=
  drawOk n l.toArray && (lastB l.toArray l0.length && ((l0.all fun o => match o.guard with | none => true | some (j, _) => decide (j < l0.length)) && drawChk n l0.toArray td))
theorem Wp.drawL {r : Option Nat} {P : Program} {n : Nat} {id : Nat} {ρ : Env} {w : World} {Q : Exit → Env → World → Prop} {l l0 : List Oper} {d : Nat} {op : Op} {ty : TypeId} {pos : String} {aft : Array Edge} (Z : Nat → Prop) (td : Td)
    (hs : Snoc l l0 ⟨some d, op, ty, pos, aft, none⟩) (hm : P.follows .mixedOrders = true) (hchk : drawChkL n l l0 td = true)
    (h : ∀ w1, w1.heap = w.heap → Fr w w1 [] → Wd P l0.toArray Z (fun ρ w => Ox P ⟨some d, op, ty, pos, aft, none⟩ ρ w fun v w' => Q .normal (upd ρ d v) w') td ρ w1) : Wp r P n (.region id l.toArray true) ρ w Q := by
  simp only [drawChkL, Bool.and_eq_true] at hchk
  obtain ⟨hok, hl, hg, hch⟩ := hchk
  obtain ⟨-, hT, hch⟩ := OpsOk.of hch
  have he := hs.eq
  have hsz : l.toArray.size = l0.length + 1 := by simp [he]
  have hlo : ∀ (i : Nat), i < l0.length → l.toArray[i]? = l0.toArray[i]? := by
    intro i hi
    simp only [List.getElem?_toArray, he]
    exact List.getElem?_append_left hi
  have hlN : l.toArray[l0.length]? = some ⟨some d, op, ty, pos, aft, none⟩ := by
    simp only [List.getElem?_toArray, he]
    rw [List.getElem?_append_right (Nat.le_refl _)]; simp
  have hlast : ∀ j, j < l0.length → j ∈ bdeps l.toArray l0.length := by
    intro j hj
    unfold lastB at hl
    rw [List.all_eq_true] at hl
    have := hl j (List.mem_range.2 (by omega))
    rw [Bool.or_eq_true] at this
    rcases this with h1 | h1
    · have : j = l0.length := by simpa using h1
      omega
    · simpa using h1
  refine Wp.drawI (fun D ρ' w' => (¬ D l0.length ∧ DInv P l0.toArray Z (fun ρ w => Ox P ⟨some d, op, ty, pos, aft, none⟩ ρ w fun v w' => Q .normal (upd ρ d v) w') D ρ' w') ∨ ((∀ j, j < l.toArray.size → D j) ∧ Q .normal ρ' w')) hm hok ?_ ?_ ?_
  · exact .inl ⟨fun h => h, DInv.start hT hch (h w.drew rfl (Fr.refl w []).drew)⟩
  · rintro D ρ' w' i o ho hnD hdep (⟨hN, hI⟩ | ⟨hall, -⟩)
    · have hi : i < l.toArray.size := (Array.getElem?_eq_some_iff.1 ho).1
      by_cases hiN : i = l0.length
      · subst hiN
        rw [hlN] at ho
        cases ho
        have hall : ∀ j, j < l0.length → D j := by
          intro j hj
          obtain ⟨x, hx, hb, rfl⟩ := (mem_bdeps hlN).1 (hlast j hj)
          exact hdep x hx hb
        have hq := DInv.finish hT D ρ' w' (by simpa using hall) hI
        unfold Gx
        refine Ox.mono hq fun v w'' hq' => .inr ⟨fun j hj => ?_, hq'⟩
        by_cases e : j = l0.length
        · exact .inl e
        · exact .inr (hall j (by omega))
      · have hi0 : i < l0.length := by omega
        rw [hlo i hi0] at ho
        have hst := DInv.step hT D ρ' w' i o ho hnD hdep hI
        have hgo : ∀ j b, o.guard = some (j, b) → j < l0.length := by
          intro j b hjb
          rw [List.all_eq_true] at hg
          have := hg o (by simpa using Array.mem_of_getElem? ho)
          rw [hjb] at this
          simpa using this
        have hconv : ∀ {K : Value → World → Prop}, Gx P l0.toArray o ρ' w' K → Gx P l.toArray o ρ' w' K := by
          intro K hG
          unfold Gx at hG ⊢
          cases hgd : o.guard with
          | none => rw [hgd] at hG; exact hG
          | some jb =>
            obtain ⟨j, b⟩ := jb
            rw [hgd] at hG
            dsimp only at hG ⊢
            rw [hlo j (hgo j b hgd)]
            exact hG
        refine hconv (hst.mono ?_)
        intro v w'' hD
        refine .inl ⟨?_, hD⟩
        rintro (h1 | h1)
        · exact hiN h1.symm
        · exact hN h1
    · exact absurd (hall i (Array.getElem?_eq_some_iff.1 ho).1) hnD
  · rintro D ρ' w' hall (⟨hN, -⟩ | ⟨-, hq⟩)
    · exact absurd (hall l0.length (by omega)) hN
    · exact hq
theorem Wp.drawSL {r : Option Nat} {P : Program} {n : Nat} {id : Nat} {ρ : Env} {w : World} {Q : Exit → Env → World → Prop} {l l0 : List Oper} {d : Nat} {op : Op} {ty : TypeId} {pos : String} {aft : Array Edge} (S : List Nat) (td : Td)
    (hs : Snoc l l0 ⟨some d, op, ty, pos, aft, none⟩) (hm : P.follows .mixedOrders = true) (hchk : drawChkL n l l0 td = true)
    (h : ∀ w1, w1.heap = w.heap → Fr w w1 [] → Wd P l0.toArray (ZL S) (fun ρ w => Ox P ⟨some d, op, ty, pos, aft, none⟩ ρ w fun v w' => Q .normal (upd ρ d v) w') td ρ w1) : Wp r P n (.region id l.toArray true) ρ w Q := Wp.drawL _ td hs hm hchk h
theorem Wp.drawPL {r : Option Nat} {P : Program} {n : Nat} {id : Nat} {ρ : Env} {w : World} {Q : Exit → Env → World → Prop} {l l0 : List Oper} {d : Nat} {op : Op} {ty : TypeId} {pos : String} {aft : Array Edge} (S : List Nat) (td : Td)
    (hs : Snoc l l0 ⟨some d, op, ty, pos, aft, none⟩) (hm : P.follows .mixedOrders = true) (hchk : drawChkL n l l0 td = true)
    (h : ∀ w1, w1.heap = w.heap → Fr w w1 [] → Wd P l0.toArray (ZP S w.heap.size) (fun ρ w => Ox P ⟨some d, op, ty, pos, aft, none⟩ ρ w fun v w' => Q .normal (upd ρ d v) w') td ρ w1) : Wp r P n (.region id l.toArray true) ρ w Q := Wp.drawL _ td hs hm hchk h
theorem PeA.list {S : List Nat} {w w' : World} {K : Value → World → Prop} {v : Value} (k : K v w') (h : Fr w w' S := by (focus ((repeat (first | assumption | exact Fr.refl _ _ | refine Fr.back (by assumption) (by first | exact fun k hk => .inl hk | (intro k hk; simp only [List.mem_cons, List.not_mem_nil, or_false] at hk ⊢ <;> first | omega | (simp [Value.ownBlock] at hk ⊢; omega) | (simp [fp, Mtr.blocks, *]; fail_if_success (focus skip)) | (simp [fp, Mtr.blocks, *]; omega)) | (refine subP (by assumption) ?_ ?_ <;> first | omega | (simp; fail_if_success (focus skip)) | exact fun k hk => .inl hk | (intro k hk; simp at hk ⊢; omega)) | (focus (repeat' (first | exact fun k hk => .inl hk | exact fun k hk => .inl (List.mem_cons_of_mem _ hk) | exact fun k hk => .inl (List.mem_cons_of_mem _ (List.mem_cons_of_mem _ hk)) | (with_reducible refine subC ?_ ?_) | (right; omega) | (left; simp; fail_if_success (focus skip)) | (left; simp [fp]; fail_if_success (focus skip)))); fail_if_success (focus skip))) ?_)); fail_if_success (focus skip)))) : Pe (ZL S) w K v w' := Pe.list h k
end Go.Proofs.Ythpdpipcfhodoaa
