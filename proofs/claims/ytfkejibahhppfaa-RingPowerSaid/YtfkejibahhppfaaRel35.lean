/- The ring against its reference, in lists: no program in sight. No condition. -/
import Derived.Test.YtfkejibahhppfaaRef35
namespace Go.Proofs.Ytfkejibahhppfaa
open Go.RowKit
set_option linter.unusedSimpArgs false
set_option maxHeartbeats 4000000
set_option linter.unusedVariables false

theorem getElem?_putL_out {b : List Int} {k : Nat} {l : List Int} (h : k + l.length ≤ b.length) {j : Nat} (hj : j < k ∨ k + l.length ≤ j) : (putL b k l)[j]? = b[j]? := by
  unfold putL
  rcases hj with hj | hj
  · rw [List.append_assoc, List.getElem?_append_left (by simp; omega), List.getElem?_take, if_pos hj]
  · rw [List.getElem?_append_right (by simp; omega), List.getElem?_drop]
    congr 1; simp; omega
theorem putL_cut {b : List Int} {k m n : Nat} {l : List Int} (h : k + l.length ≤ b.length) (hd : m + n ≤ k ∨ k + l.length ≤ m) : ((putL b k l).drop m).take n = (b.drop m).take n := by
  apply List.ext_getElem?
  intro j
  rw [List.getElem?_take, List.getElem?_take]
  split
  · rw [List.getElem?_drop, List.getElem?_drop, getElem?_putL_out h (by omega)]
  · rfl

theorem tmod_apart {a b c : Int} (ha : 0 ≤ a) (hab : a < b) (hc : b - a < c) : a.tmod c ≠ b.tmod c := by
  rw [Int.tmod_eq_emod_of_nonneg ha, Int.tmod_eq_emod_of_nonneg (by omega)]
  intro h
  have h1 : (b - a) % c = 0 := Int.emod_eq_emod_iff_emod_sub_eq_zero.1 h.symm
  rw [Int.emod_eq_of_lt (by omega) hc] at h1
  omega
theorem Rg.slot_apart {R : Rg} {n : Nat} (h : R.Ok n) {a b : Int} (ha : 0 ≤ a) (hab : a < b) (hc : b - a < R.cap) : R.slot a + R.entry ≤ R.slot b ∨ R.slot b + R.entry ≤ R.slot a := by
  have h1 := tmod_apart ha hab hc
  have h3 := h.entry
  unfold Rg.slot
  rcases Int.lt_or_gt_of_ne h1 with h2 | h2
  · left
    have h4 : (a.tmod R.cap + 1) * R.entry ≤ b.tmod R.cap * R.entry := Int.mul_le_mul_of_nonneg_right (by omega) (by omega)
    rw [Int.add_mul, Int.one_mul] at h4; omega
  · right
    have h4 : (b.tmod R.cap + 1) * R.entry ≤ a.tmod R.cap * R.entry := Int.mul_le_mul_of_nonneg_right (by omega) (by omega)
    rw [Int.add_mul, Int.one_mul] at h4; omega

structure RRel (Z : Rg) (b0 : List Int) (R : Rg) (b : List Int) (X : RR) (t : Nat) : Prop where
  ok : R.Ok b.length
  same : R.addr = Z.addr ∧ R.entry = Z.entry ∧ R.cap = Z.cap
  len0 : b.length = b0.length
  small : b.length ≤ 65536
  out : ∀ j : Nat, ((j : Int) < R.addr ∨ R.addr + R.cap * R.entry ≤ j) → b[j]? = b0[j]?
  entry : X.entry = R.entry
  cap : X.cap = R.cap
  rem : X.rem = R.nr
  add : X.add = R.na
  orem : X.orem = R.cr
  oadd : X.oadd = R.ca
  first : 0 ≤ X.first ∧ X.first ≤ R.cr
  win : R.cr ≤ R.nr ∧ R.ca ≤ R.na ∧ R.na - R.cr ≤ R.cap
  len : (X.all.length : Int) = R.na - X.first
  most : X.all.length ≤ 65536 + t
  data : ∀ k : Int, R.cr ≤ k → k < R.na → (b.drop (R.slot k).toNat).take R.entry.toNat = X.all.getD (k - X.first).toNat []

section
variable {Z : Rg} {b0 : List Int} {R : Rg} {b : List Int} {X : RR} {t : Nat}
theorem RRel.caps (h : RRel Z b0 R b X t) : R.entry ≤ b.length ∧ R.cap ≤ b.length := by
  obtain ⟨h1, h2, h3, h4, -⟩ := h.ok
  have h5 : 1 * R.entry ≤ R.cap * R.entry := Int.mul_le_mul_of_nonneg_right (by omega) (by omega)
  have h6 : R.cap * 1 ≤ R.cap * R.entry := Int.mul_le_mul_of_nonneg_left (by omega) (by omega)
  omega
theorem RRel.okX (h : RRel Z b0 R b X t) (ht : t ≤ 900000) : X.Ok := by
  have hc := h.caps
  obtain ⟨h1, h2, h3, h4, h5, h6, h7, h8, h9, h10⟩ := h.ok
  have := h.small; have := h.entry; have := h.cap; have := h.rem; have := h.add; have := h.orem; have := h.oadd; have := h.first; have := h.win; have := h.len; have := h.most
  constructor <;> omega
theorem RRel.later (h : RRel Z b0 R b X t) {u : Nat} (hu : t ≤ u) : RRel Z b0 R b X u := { h with most := Nat.le_trans h.most (by omega) }

abbrev onM (b : List Int) (wr : Int) : Mem := ⟨b, false, false, 0, .off, wr⟩
theorem RRel.get (h : RRel Z b0 R b X t) {k : Int} (h1 : R.cr ≤ k) (h2 : k < R.na) (wr : Int) : R.get (onM b wr) k = (0, X.all.getD (k - X.first).toNat []) := by
  have hk := Rg.slot_in h.ok (k := k) (by have := h.ok.cr; omega)
  have h0 := h.ok.addr
  have h3 := h.ok.entry
  have hfit := h.ok.fit
  unfold Rg.get
  rw [if_neg (by simp), Mem.readBytes_on (Mem.valid_iff.2 ⟨by unfold Rg.slot; omega, by omega, by unfold Rg.slot; show _ ≤ (b.length : Int); omega⟩) rfl, ← h.data k h1 h2]
theorem RRel.at' (h : RRel Z b0 R b X t) (i : Int) (wr : Int) : (if i < 0 ∨ R.na - R.nr ≤ i then (5 : Int) else (R.get (onM b wr) (R.nr + i)).1) = (X.at i).1 ∧ (if i < 0 ∨ R.na - R.nr ≤ i then [] else (R.get (onM b wr) (R.nr + i)).2) = (X.at i).2 := by
  have h1 := h.win
  unfold RR.at
  rw [h.add, h.rem]
  by_cases e : i < 0 ∨ R.na - R.nr ≤ i
  · simp only [if_pos e]; simp
  · simp only [if_neg e]
    rw [h.get (by omega) (by omega)]; simp
theorem RRel.pop' (h : RRel Z b0 R b X t) (wr : Int) : ∃ R', R.pop (onM b wr) = (X.pop.1, X.pop.2.1, R') ∧ RRel Z b0 R' b X.pop.2.2 t := by
  have h1 := h.win
  have h2 := h.ok.na
  unfold RR.pop Rg.pop
  by_cases e : X.add = X.rem
  · have e' : R.na - R.nr = 0 := by have := h.add; have := h.rem; omega
    simp only [if_pos e, if_pos e']
    exact ⟨_, rfl, h⟩
  · have e' : ¬ R.na - R.nr = 0 := by have := h.add; have := h.rem; omega
    simp only [if_neg e, if_neg e']
    rw [h.get (by omega) (by omega)]
    have h3 := h.rem
    have h4 := h.ok
    refine ⟨{ R with nr := R.nr + 1 }, by rw [h3]; simp, { h with ok := ⟨h4.addr, h4.entry, h4.cap, h4.fit, ?_, ?_, h4.top, h4.cr, h4.ca, h4.ctop⟩, rem := ?_, win := ?_ }⟩
    · show 0 ≤ R.nr + 1; have := h4.nr; omega
    · show R.nr + 1 ≤ R.na; omega
    · show X.rem + 1 = R.nr + 1; omega
    · show R.cr ≤ R.nr + 1 ∧ R.ca ≤ R.na ∧ R.na - R.cr ≤ R.cap; omega
theorem RRel.commit (h : RRel Z b0 R b X t) : RRel Z b0 { R with cr := R.nr, ca := R.na } b { X with orem := X.rem, oadd := X.add } t := by
  have h1 := h.win
  have h4 := h.ok
  have h5 := h.first
  refine { h with ok := ⟨h4.addr, h4.entry, h4.cap, h4.fit, h4.nr, h4.na, h4.top, h4.nr, h4.na, h4.top⟩, orem := h.rem, oadd := h.add, first := ?_, win := ?_, data := ?_ }
  · show 0 ≤ X.first ∧ X.first ≤ R.nr; omega
  · show R.nr ≤ R.nr ∧ R.na ≤ R.na ∧ R.na - R.nr ≤ R.cap; omega
  · intro k hk1 hk2; exact h.data k (by show R.cr ≤ k; replace hk1 : R.nr ≤ k := hk1; omega) hk2
theorem RRel.revert (h : RRel Z b0 R b X t) : RRel Z b0 { R with nr := R.cr, na := R.ca } b { X with rem := X.orem, add := X.oadd, all := X.all.take (X.oadd - X.first).toNat } t := by
  have h1 := h.win
  have h4 := h.ok
  have h5 := h.first
  have h6 := h.len
  have h7 := h.oadd
  have h8 := h.most
  have h9 := h4.ca
  refine { h with ok := ⟨h4.addr, h4.entry, h4.cap, h4.fit, h4.cr, h4.ca, h4.ctop, h4.cr, h4.ca, h4.ctop⟩, rem := h.orem, add := h.oadd, win := ?_, len := ?_, most := ?_, data := ?_ }
  · show R.cr ≤ R.cr ∧ R.ca ≤ R.ca ∧ R.ca - R.cr ≤ R.cap; omega
  · show ((X.all.take (X.oadd - X.first).toNat).length : Int) = R.ca - X.first
    rw [List.length_take]; omega
  · show (X.all.take (X.oadd - X.first).toNat).length ≤ _
    rw [List.length_take]; omega
  · intro k hk1 hk2
    replace hk1 : R.cr ≤ k := hk1
    replace hk2 : k < R.ca := hk2
    show _ = (X.all.take (X.oadd - X.first).toNat).getD (k - X.first).toNat []
    rw [List.getD_eq_getElem?_getD, List.getElem?_take, if_pos (by omega), ← List.getD_eq_getElem?_getD]
    exact h.data k hk1 (by omega)
theorem RRel.push' (h : RRel Z b0 R b X t) (l : List Int) {wr : Int} (hw : 0 ≤ wr) (hw2 : wr + l.length ≤ 1000000) :
    ∃ R' b' wr', R.push (onM b wr) l = ((X.push l).1, R', onM b' wr') ∧ RRel Z b0 R' b' (X.push l).2 (t + 1) ∧ wr ≤ wr' ∧ wr' ≤ wr + l.length := by
  have h1 := h.win
  have h4 := h.ok
  have h5 := h.first
  have h6 := h.len
  have h8 := h.most
  unfold RR.push Rg.push
  rw [h.entry, h.cap, h.add, h.orem]
  by_cases e1 : (l.length : Int) ≠ R.entry
  · simp only [if_pos e1]; exact ⟨_, _, _, rfl, h.later (by omega), by omega, by omega⟩
  simp only [if_neg e1]
  by_cases e2 : R.cap ≤ R.na - R.cr
  · simp only [if_pos e2, if_pos (show R.cap ≤ R.na - R.cr ∨ 1099511627776 ≤ R.na from .inl e2)]; exact ⟨_, _, _, rfl, h.later (by omega), by omega, by omega⟩
  simp only [if_neg e2]
  by_cases e3 : 1099511627776 ≤ R.na
  · simp only [if_pos e3, if_pos (show R.cap ≤ R.na - R.cr ∨ 1099511627776 ≤ R.na from .inr e3)]; exact ⟨_, _, _, rfl, h.later (by omega), by omega, by omega⟩
  simp only [if_neg e3, if_neg (show ¬ (R.cap ≤ R.na - R.cr ∨ 1099511627776 ≤ R.na) by omega)]
  have hk := Rg.slot_in h4 (k := R.na) (by have := h4.nr; have := h4.na; omega)
  have ha := h4.addr
  have he := h4.entry
  have hs : 0 ≤ R.slot R.na ∧ R.slot R.na + l.length ≤ b.length := by
    unfold Rg.slot; have := h4.fit; omega
  have hfit : (R.slot R.na).toNat + l.length ≤ b.length := by omega
  have hwb : (onM b wr).writeBytes (R.slot R.na) l = (true, onM (putL b (R.slot R.na).toNat l) (wr + l.length)) := by
    unfold Mem.writeBytes
    rw [if_pos (Mem.valid_iff.2 ⟨hs.1, by omega, hs.2⟩), Mem.writeN_plain l _ b wr hs.1 hs.2 h.small hw hw2]; rfl
  rw [hwb]
  simp only [if_true]
  have hlen := length_putL hfit
  have htk : X.all.take (R.na - X.first).toNat = X.all := List.take_of_length_le (by omega)
  refine ⟨_, _, _, rfl, ⟨?_, h.same, ?_, ?_, ?_, rfl, rfl, h.rem, ?_, rfl, h.oadd, h.first, ?_, ?_, ?_, ?_⟩, by omega, by omega⟩
  · rw [hlen]
    refine ⟨h4.addr, h4.entry, h4.cap, h4.fit, h4.nr, ?_, ?_, h4.cr, h4.ca, h4.ctop⟩
    · show R.nr ≤ R.na + 1; have := h4.na; omega
    · show R.na + 1 ≤ _; omega
  · rw [hlen]; exact h.len0
  · rw [hlen]; exact h.small
  · intro j hj
    replace hj : (j : Int) < R.addr ∨ R.addr + R.cap * R.entry ≤ j := hj
    have hsl : R.slot R.na = R.addr + R.na.tmod R.cap * R.entry := rfl
    rw [getElem?_putL_out hfit (by omega)]; exact h.out j hj
  · show R.na + 1 = R.na + 1; rfl
  · show R.cr ≤ R.nr ∧ R.ca ≤ R.na + 1 ∧ R.na + 1 - R.cr ≤ R.cap; omega
  · show ((X.all.take (R.na - X.first).toNat ++ [l]).length : Int) = R.na + 1 - X.first
    rw [htk, List.length_append, List.length_singleton]; omega
  · show (X.all.take (R.na - X.first).toNat ++ [l]).length ≤ _
    rw [htk, List.length_append, List.length_singleton]; omega
  · intro k hk1 hk2
    replace hk1 : R.cr ≤ k := hk1
    replace hk2 : k < R.na + 1 := hk2
    show (List.drop (R.slot k).toNat (putL b _ l)).take R.entry.toNat = (X.all.take (R.na - X.first).toNat ++ [l]).getD (k - X.first).toNat []
    rw [htk, getD_snoc]
    have hkk := Rg.slot_in h4 (k := k) (by have := h4.cr; omega)
    have hsk : R.slot k = R.addr + k.tmod R.cap * R.entry := rfl
    by_cases ek : k = R.na
    · subst ek
      rw [if_neg (by omega), if_pos (by omega), show R.entry.toNat = l.length by omega]
      exact drop_putL hfit
    · rw [if_pos (by omega)]
      have hap := Rg.slot_apart h4 (a := k) (b := R.na) (by have := h4.cr; omega) (by omega) (by omega)
      rw [putL_cut hfit (by omega)]
      exact h.data k hk1 (by omega)
end
end Go.Proofs.Ytfkejibahhppfaa
