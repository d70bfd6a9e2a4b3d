/- Chapter 7: the memory and its reference, side by side. No condition. -/
import Derived.Test.YtkkmiodambfbdaaRef07
import Derived.Test.YtkkmiodambfbdaaArg
namespace Go.Proofs.Ytkkmiodambfbdaa
open Go.RowKit
set_option linter.unusedSimpArgs false
set_option maxHeartbeats 4000000
set_option linter.unusedVariables false

def MtrRel (m : Mtr) (X : RM) (t : Nat) : Prop := match m with
  | .off => X.met = false
  | .down _ n => X.met = true ∧ -(t : Int) ≤ n ∧ n ≤ 1000 ∧ X.bud = if 0 ≤ n then n else 0
  | .up _ _ _ _ => False
/-- The memory and its reference agree. -/
structure Rel (M : Mem) (X : RM) (t : Nat) : Prop where
  b : X.b = M.b
  off : X.off = M.off
  armed : X.armed = M.armed
  left : X.left = M.left
  writes : X.writes = M.writes
  mtr : MtrRel M.mtr X t
theorem MtrRel.mono {m : Mtr} {X : RM} {t t' : Nat} (h : MtrRel m X t) (ht : t ≤ t') : MtrRel m X t' := by
  cases m with
  | off => exact h
  | down c n => obtain ⟨h1, h2, h3, h4⟩ := h; exact ⟨h1, by omega, h3, h4⟩
  | up c d n k => exact h
theorem Rel.mono {M : Mem} {X : RM} {t t' : Nat} (h : Rel M X t) (ht : t ≤ t') : Rel M X t' := ⟨h.b, h.off, h.armed, h.left, h.writes, h.mtr.mono ht⟩
theorem Rel.eq {M : Mem} {X : RM} {t : Nat} (h : Rel M X t) : X = ⟨M.b, M.off, M.armed, M.left, X.met, X.bud, M.writes⟩ := by
  obtain ⟨b, off, armed, left, met, bud, wr⟩ := X
  obtain ⟨h1, h2, h3, h4, h5, -⟩ := h
  simp_all
theorem Rel.valid {M : Mem} {X : RM} {t : Nat} (h : Rel M X t) (a n : Int) : X.valid a n = M.valid a n := by unfold RM.valid Mem.valid; rw [h.b]

theorem Rel.write {M : Mem} {X : RM} {t : Nat} (h : Rel M X t) (ht : t ≤ 1000000) (a x : Int) :
    (X.write a x).2 = (M.write a x).1 ∧ Rel (M.write a x).2 (X.write a x).1 (if (X.write a x).2 = true then t else t + 1) := by
  have hm := h.mtr
  unfold RM.write Mem.write
  rw [h.valid, h.off, h.armed, h.left, h.b, h.writes]
  by_cases h1 : M.valid a 1 = false ∨ M.off = true
  · rw [if_pos h1, if_pos h1]
    exact ⟨rfl, h.mono (by simp)⟩
  rw [if_neg h1, if_neg h1]
  by_cases h2 : M.armed = true ∧ M.left = 0
  · rw [if_pos h2, if_pos h2]
    exact ⟨rfl, ⟨rfl, rfl, rfl, rfl, rfl, hm.mono (by simp)⟩⟩
  rw [if_neg h2, if_neg h2]
  obtain ⟨b, off, armed, left, mtr, wr⟩ := M
  cases mtr with
  | off =>
    have hm : X.met = false := hm
    rw [if_neg (by simp [hm])]
    simp only [Mtr.tick, if_true]
    exact ⟨trivial, ⟨rfl, rfl, rfl, rfl, rfl, hm⟩⟩
  | down c n =>
    obtain ⟨m1, m2, m3, m4⟩ := hm
    have hw : IntKind.i64.wrap (n - 1) = n - 1 := by rw [IntKind.wrap_i64]; omega
    simp only [Mtr.tick, hw, decide_eq_true_eq]
    by_cases hn : 0 ≤ n - 1
    · have hb : X.bud = n := by rw [m4, if_pos (by omega)]
      rw [if_neg (by rw [hb]; omega), if_pos hn]
      refine ⟨rfl, ⟨rfl, rfl, rfl, rfl, rfl, m1, ?_, by omega, ?_⟩⟩
      · simp; omega
      · show (if X.met = true then IntKind.i64.wrap (X.bud - 1) else X.bud) = _
        rw [if_pos m1, hb, hw, if_pos hn]
    · have hb : X.bud ≤ 0 := by rw [m4]; split <;> omega
      rw [if_pos ⟨m1, hb⟩, if_neg hn]
      refine ⟨rfl, ⟨rfl, rfl, rfl, rfl, rfl, m1, ?_, by omega, ?_⟩⟩
      · simp; omega
      · show X.bud = _
        rw [m4, if_neg hn]; split <;> omega
  | up c d n k => exact hm.elim

theorem Rel.writeN (l : List Int) : ∀ {M : Mem} {X : RM} {t : Nat} (a : Int), Rel M X t → t ≤ 1000000 → (X.writeN a l).2 = (M.writeN a l).1 ∧ Rel (M.writeN a l).2 (X.writeN a l).1 (if (X.writeN a l).2 = true then t else t + 1) := by
  induction l with
  | nil => intro M X t a h _; exact ⟨rfl, h⟩
  | cons x l ih =>
    intro M X t a h ht
    obtain ⟨h1, h2⟩ := h.write ht a x
    by_cases hb : (X.write a x).2 = true
    · have e1 : X.writeN a (x :: l) = (X.write a x).1.writeN (a + 1) l := by simp only [RM.writeN]; rw [if_pos hb]
      have e2 : M.writeN a (x :: l) = (M.write a x).2.writeN (a + 1) l := by simp only [Mem.writeN]; rw [if_pos (h1.symm.trans hb)]
      simp only [e1, e2]
      rw [if_pos hb] at h2
      exact ih _ h2 ht
    · have e1 : X.writeN a (x :: l) = ((X.write a x).1, false) := by simp only [RM.writeN]; rw [if_neg hb]
      have e2 : M.writeN a (x :: l) = (false, (M.write a x).2) := by simp only [Mem.writeN]; rw [if_neg (fun e => hb (h1.trans e))]
      simp only [e1, e2]
      rw [if_neg hb] at h2
      exact ⟨trivial, by simpa using h2⟩
theorem Rel.writeBytes {M : Mem} {X : RM} {t : Nat} (l : List Int) (a : Int) (h : Rel M X t) (ht : t ≤ 1000000) : (X.writeBytes a l).2 = (M.writeBytes a l).1 ∧ Rel (M.writeBytes a l).2 (X.writeBytes a l).1 (t + 1) := by
  unfold RM.writeBytes
  by_cases hv : M.valid a l.length = true
  · by_cases ho : M.off = true
    · rw [if_pos (.inr (by rw [h.off]; exact ho))]
      cases l with
      | nil => simp [Mem.writeBytes, hv, Mem.writeN, ho]; exact h.mono (by omega)
      | cons x l => rw [Mem.writeBytes_off ho (by simp)]; exact ⟨rfl, h.mono (by omega)⟩
    · have ho' : M.off = false := by simpa using ho
      rw [if_neg (by rw [h.valid, hv, h.off, ho']; simp)]
      obtain ⟨h1, h2⟩ := Rel.writeN l a h ht
      unfold Mem.writeBytes
      rw [if_pos hv]
      by_cases hb : (M.writeN a l).1 = true
      · rw [if_pos hb]
        refine ⟨by rw [h1, hb, Mem.writeN_on l a ho' hb]; rfl, h2.mono (by split <;> omega)⟩
      · rw [if_neg hb]
        exact ⟨h1, h2.mono (by split <;> omega)⟩
  · rw [if_pos (.inl (by rw [h.valid]; simpa using hv))]
    simp [Mem.writeBytes, hv]
    exact h.mono (by omega)
theorem Rel.readBytes {M : Mem} {X : RM} {t : Nat} (h : Rel M X t) (a n : Int) : X.readBytes a n = M.readBytes a n := by
  unfold RM.readBytes Mem.readBytes; rw [h.valid, h.off, h.b]
theorem Rel.readWord {M : Mem} {X : RM} {t : Nat} (h : Rel M X t) (a : Int) : X.readWord a = M.readWord a := by
  unfold RM.readWord Mem.readWord
  rw [h.valid, h.readBytes]
  by_cases hv : M.valid a 2 = true
  · rw [if_pos hv, if_pos hv]
    have hva := Mem.valid_iff.1 hv
    have e : ∀ z : Int, IntKind.i16.wrap (IntKind.u16.wrap z) = IntKind.i16.wrap z := fun z => by
      simp [IntKind.wrap, IntKind.bits, IntKind.signed]
    rw [e]
    have h0 : (M.readBytes a 2).getD 0 0 = M.read a ∧ (M.readBytes a 2).getD 1 0 = M.read (a + 1) := by
      cases ho : M.off with
      | true => rw [Mem.readBytes_off hv ho, Mem.read_off ho, Mem.read_off ho]; exact ⟨rfl, rfl⟩
      | false =>
        rw [Mem.readBytes_on hv ho]
        unfold Mem.read
        rw [if_pos ⟨ho, Mem.valid_iff.2 ⟨by omega, by omega, by omega⟩⟩, if_pos ⟨ho, Mem.valid_iff.2 ⟨by omega, by omega, by omega⟩⟩]
        rw [show (a + 1).toNat = a.toNat + 1 by omega, show Int.toNat 2 = 2 from rfl]
        simp [List.getD_eq_getElem?_getD, List.getElem?_take, List.getElem?_drop]
    rw [h0.1, h0.2]
  · rw [if_neg hv, if_neg hv]
end Go.Proofs.Ytkkmiodambfbdaa
