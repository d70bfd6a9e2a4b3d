/- Regions whose order is open and whose last operation writes what the others read. No condition. -/
import Derived.Test.YthpdpipcfhodoaaDraw
namespace Go.Proofs.Ythpdpipcfhodoaa
open Go.RowKit
set_option linter.unusedSimpArgs false
set_option maxHeartbeats 4000000
set_option linter.unusedVariables false

section
variable {P : Program} {n : Nat} {ops : Array Oper} {Z : Nat → Prop} {Q : Env → World → Prop}
end
inductive Snoc {α : Type} : List α → List α → α → Prop
  | one (a : α) : Snoc [a] [] a
  | cons {l l0 : List α} {x : α} (a : α) (h : Snoc l l0 x) : Snoc (a :: l) (a :: l0) x
theorem Snoc.eq {α : Type} {l l0 : List α} {x : α} (h : Snoc l l0 x) : l = l0 ++ [x] := by
  induction h with
  | one a => rfl
  | cons a h ih => rw [ih]; rfl
def drawChkL (n : Nat) (l l0 : List Oper) (td : Td) : Bool :=
  drawOk n l.toArray && (lastB l.toArray l0.length && ((l0.all fun o => match o.guard with | none => true | some (j, _) => decide (j < l0.length)) && drawChk n l0.toArray td))
theorem Wp.drawL {r : Option Nat} {P : Program} {n : Nat} {id : Nat} {ρ : Env} {w : World} {Q : Exit → Env → World → Prop} {l l0 : List Oper} {d : Nat} {op : Op} {ty : TypeId} {pos : String} {aft : Array Edge} (Z : Nat → Prop) (td : Td)
    (hs : Snoc l l0 ⟨some d, op, ty, pos, aft, none⟩) (hm : P.follows .mixedOrders = true) (hchk : drawChkL n l l0 td = true)
    (h : ∀ w1, w1.heap = w.heap → Fr w w1 [] → Wd P l0.toArray Z (fun ρ w => Ox P ⟨some d, op, ty, pos, aft, none⟩ ρ w fun v w' => Q .normal (upd ρ d v) w') td ρ w1) : Wp r P n (.region id l.toArray true) ρ w Q := by
  simp only [drawChkL, Bool.and_eq_true] at hchk
  obtain ⟨hok, hl, hg, hch⟩ := hchk
  obtain ⟨-, hT, hch⟩ := OpsOk.of hch
  have he := hs.eq
  have hsz : l.toArray.size = l0.length + 1 := by simp [he]
  have hlo : ∀ (i : Nat), i < l0.length → l.toArray[i]? = l0.toArray[i]? := by
    intro i hi
    simp only [List.getElem?_toArray, he]
    exact List.getElem?_append_left hi
  have hlN : l.toArray[l0.length]? = some ⟨some d, op, ty, pos, aft, none⟩ := by
    simp only [List.getElem?_toArray, he]
    rw [List.getElem?_append_right (Nat.le_refl _)]; simp
  have hlast : ∀ j, j < l0.length → j ∈ bdeps l.toArray l0.length := by
    intro j hj
    unfold lastB at hl
    rw [List.all_eq_true] at hl
    have := hl j (List.mem_range.2 (by omega))
    rw [Bool.or_eq_true] at this
    rcases this with h1 | h1
    · have : j = l0.length := by simpa using h1
      omega
    · simpa using h1
  refine Wp.drawI (fun D ρ' w' => (¬ D l0.length ∧ DInv P l0.toArray Z (fun ρ w => Ox P ⟨some d, op, ty, pos, aft, none⟩ ρ w fun v w' => Q .normal (upd ρ d v) w') D ρ' w') ∨ ((∀ j, j < l.toArray.size → D j) ∧ Q .normal ρ' w')) hm hok ?_ ?_ ?_
  · exact .inl ⟨fun h => h, DInv.start hT hch (h w.drew rfl (Fr.refl w []).drew)⟩
  · rintro D ρ' w' i o ho hnD hdep (⟨hN, hI⟩ | ⟨hall, -⟩)
    · have hi : i < l.toArray.size := (Array.getElem?_eq_some_iff.1 ho).1
      by_cases hiN : i = l0.length
      · subst hiN
        rw [hlN] at ho
        cases ho
        have hall : ∀ j, j < l0.length → D j := by
          intro j hj
          obtain ⟨x, hx, hb, rfl⟩ := (mem_bdeps hlN).1 (hlast j hj)
          exact hdep x hx hb
        have hq := DInv.finish hT D ρ' w' (by simpa using hall) hI
        unfold Gx
        refine Ox.mono hq fun v w'' hq' => .inr ⟨fun j hj => ?_, hq'⟩
        by_cases e : j = l0.length
        · exact .inl e
        · exact .inr (hall j (by omega))
      · have hi0 : i < l0.length := by omega
        rw [hlo i hi0] at ho
        have hst := DInv.step hT D ρ' w' i o ho hnD hdep hI
        have hgo : ∀ j b, o.guard = some (j, b) → j < l0.length := by
          intro j b hjb
          rw [List.all_eq_true] at hg
          have := hg o (by simpa using Array.mem_of_getElem? ho)
          rw [hjb] at this
          simpa using this
        have hconv : ∀ {K : Value → World → Prop}, Gx P l0.toArray o ρ' w' K → Gx P l.toArray o ρ' w' K := by
          intro K hG
          unfold Gx at hG ⊢
          cases hgd : o.guard with
          | none => rw [hgd] at hG; exact hG
          | some jb =>
            obtain ⟨j, b⟩ := jb
            rw [hgd] at hG
            dsimp only at hG ⊢
            rw [hlo j (hgo j b hgd)]
            exact hG
        refine hconv (hst.mono ?_)
        intro v w'' hD
        refine .inl ⟨?_, hD⟩
        rintro (h1 | h1)
        · exact hiN h1.symm
        · exact hN h1
    · exact absurd (hall i (Array.getElem?_eq_some_iff.1 ho).1) hnD
  · rintro D ρ' w' hall (⟨hN, -⟩ | ⟨-, hq⟩)
    · exact absurd (hall l0.length (by omega)) hN
    · exact hq
theorem Wp.drawSL {r : Option Nat} {P : Program} {n : Nat} {id : Nat} {ρ : Env} {w : World} {Q : Exit → Env → World → Prop} {l l0 : List Oper} {d : Nat} {op : Op} {ty : TypeId} {pos : String} {aft : Array Edge} (S : List Nat) (td : Td)
    (hs : Snoc l l0 ⟨some d, op, ty, pos, aft, none⟩) (hm : P.follows .mixedOrders = true) (hchk : drawChkL n l l0 td = true)
    (h : ∀ w1, w1.heap = w.heap → Fr w w1 [] → Wd P l0.toArray (ZL S) (fun ρ w => Ox P ⟨some d, op, ty, pos, aft, none⟩ ρ w fun v w' => Q .normal (upd ρ d v) w') td ρ w1) : Wp r P n (.region id l.toArray true) ρ w Q := Wp.drawL _ td hs hm hchk h
theorem Wp.drawPL {r : Option Nat} {P : Program} {n : Nat} {id : Nat} {ρ : Env} {w : World} {Q : Exit → Env → World → Prop} {l l0 : List Oper} {d : Nat} {op : Op} {ty : TypeId} {pos : String} {aft : Array Edge} (S : List Nat) (td : Td)
    (hs : Snoc l l0 ⟨some d, op, ty, pos, aft, none⟩) (hm : P.follows .mixedOrders = true) (hchk : drawChkL n l l0 td = true)
    (h : ∀ w1, w1.heap = w.heap → Fr w w1 [] → Wd P l0.toArray (ZP S w.heap.size) (fun ρ w => Ox P ⟨some d, op, ty, pos, aft, none⟩ ρ w fun v w' => Q .normal (upd ρ d v) w') td ρ w1) : Wp r P n (.region id l.toArray true) ρ w Q := Wp.drawL _ td hs hm hchk h
theorem PeA.list {S : List Nat} {w w' : World} {K : Value → World → Prop} {v : Value} (k : K v w') (h : Fr w w' S := by (focus ((repeat (first | assumption | exact Fr.refl _ _ | refine Fr.back (by assumption) (by first | exact fun k hk => .inl hk | (intro k hk; simp only [List.mem_cons, List.not_mem_nil, or_false] at hk ⊢ <;> first | omega | (simp [Value.ownBlock] at hk ⊢; omega) | (simp [fp, Mtr.blocks, *]; fail_if_success (focus skip)) | (simp [fp, Mtr.blocks, *]; omega)) | (refine subP (by assumption) ?_ ?_ <;> first | omega | (simp; fail_if_success (focus skip)) | exact fun k hk => .inl hk | (intro k hk; simp at hk ⊢; omega)) | (focus (repeat' (first | exact fun k hk => .inl hk | exact fun k hk => .inl (List.mem_cons_of_mem _ hk) | exact fun k hk => .inl (List.mem_cons_of_mem _ (List.mem_cons_of_mem _ hk)) | (with_reducible refine subC ?_ ?_) | (right; omega) | (left; simp; fail_if_success (focus skip)) | (left; simp [fp]; fail_if_success (focus skip)))); fail_if_success (focus skip))) ?_)); fail_if_success (focus skip)))) : Pe (ZL S) w K v w' := Pe.list h k
end Go.Proofs.Ythpdpipcfhodoaa
