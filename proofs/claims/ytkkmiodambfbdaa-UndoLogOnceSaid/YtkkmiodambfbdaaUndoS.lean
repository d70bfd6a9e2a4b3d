/- Plain laws of the log: a save keeps what a rollback gives. No condition. -/
import Derived.Test.YtkkmiodambfbdaaUndoR
namespace Go.Proofs.Ytkkmiodambfbdaa
open Go.RowKit
set_option linter.unusedSimpArgs false
set_option maxHeartbeats 4000000
set_option linter.unusedVariables false

section
variable {L : Lg} {n : Int}
theorem Lg.undoP_mem {p q : Int × Int} (hq : q ∈ addrL p.1 (wordL p.2)) (hc : L.can p.1 = true) : ∀ ps : List (Int × Int), p ∈ ps → q ∈ L.undoP ps := by
  intro ps
  induction ps with
  | nil => intro h; simp at h
  | cons r ps ih =>
    intro h
    rw [Lg.undoP, List.mem_append]
    rcases List.mem_cons.1 h with rfl | h
    · rw [if_pos hc]; exact .inl hq
    · exact .inr (ih h)
theorem Lg.plan_below {b b' : List Int} (hok : L.Ok b.length) (hl : b'.length = b.length) {N : Nat} (hN : N = L.num (mem b false false 0 0) n)
    (h : ∀ i : Nat, L.addr ≤ i → i < L.entry N → b'[i]? = b[i]?) : L.plan b' n = L.plan b n := by
  obtain ⟨h1, h2, h3, h4⟩ := hok
  have hNle := Lg.num_le (L := L) (M := mem b false false 0 0) (n := n) (by omega)
  rw [← hN] at hNle
  have hE : L.entry N = L.addr + 3 + 4 * N := rfl
  have hrd : ∀ i : Int, L.addr ≤ i → i < L.entry N → (mem b' false false 0 0).read i = (mem b false false 0 0).read i := by
    intro i hi hj
    rw [Mem.read_on rfl (by omega) (by show i < (b'.length : Int); omega), Mem.read_on rfl (by omega) (by show i < (b.length : Int); omega)]
    show b'.getD i.toNat 0 = b.getD i.toNat 0
    rw [List.getD_eq_getElem?_getD, List.getD_eq_getElem?_getD, h i.toNat (by omega) (by omega)]
  have hnum : L.num (mem b' false false 0 0) n = N := by
    rw [hN]
    unfold Lg.num
    by_cases hn : okGen n = true
    · have := of_decide_eq_true hn
      rw [if_pos hn, if_pos hn]
      unfold Lg.count
      rw [hrd _ (by omega) (by omega)]
    · rw [if_neg hn, if_neg hn]
  have hback : L.back (mem b' false false 0 0) N = L.back (mem b false false 0 0) N := by
    unfold Lg.back
    apply List.map_congr_left
    intro i hi
    have hi' : i < N := by simpa using hi
    have e : L.entry i = L.addr + 3 + 4 * i := rfl
    rw [Mem.readWord_eq (M := mem b false false 0 0) hl (hrd _ (by omega) (by omega)) (hrd _ (by omega) (by omega)), Mem.readWord_eq (M := mem b false false 0 0) hl (hrd _ (by omega) (by omega)) (hrd _ (by omega) (by omega))]
  unfold Lg.plan Lg.steps
  rw [hnum, hback, ← hN]

theorem word_back {x0 x1 : Int} (h0 : 0 ≤ x0 ∧ x0 < 256) (h1 : 0 ≤ x1 ∧ x1 < 256) : wordL (IntKind.i16.wrap (x0 + 256 * x1)) = [x0, x1] ∧ IntKind.u16.wrap (IntKind.i16.wrap (x0 + 256 * x1)) = x0 + 256 * x1 := by
  have e : IntKind.u16.wrap (IntKind.i16.wrap (x0 + 256 * x1)) = x0 + 256 * x1 := by
    rw [IntKind.wrap_u16]
    simp [IntKind.wrap, IntKind.bits, IntKind.signed]; omega
  refine ⟨?_, e⟩
  unfold wordL
  rw [e]
  have e2 : IntKind.u8.wrap (IntKind.i16.wrap (x0 + 256 * x1)) = x0 := by
    rw [IntKind.wrap_u8]
    simp [IntKind.wrap, IntKind.bits, IntKind.signed]; omega
  have e3 : IntKind.u8.wrap ((x0 + 256 * x1) / 256) = x1 := by rw [IntKind.wrap_u8]; omega
  rw [e2, e3]

theorem four_sets {b : List Int} {E C : Nat} {r0 r1 r2 r3 c : Int} (hE : E + 4 ≤ b.length) (hC : C < E) (i : Nat) :
    (putAll b (addrL (E : Int) [r0, r1, r2, r3] ++ [((C : Int), c)]))[i]? = if i = C then some c else if i = E then some r0 else if i = E + 1 then some r1 else if i = E + 2 then some r2 else if i = E + 3 then some r3 else b[i]? := by
  simp only [addrL, List.cons_append, List.nil_append, putAll, List.getElem?_set, List.length_set, Int.toNat_natCast,
    show ((E : Int) + 1).toNat = E + 1 by omega, show ((E : Int) + 1 + 1).toNat = E + 2 by omega, show ((E : Int) + 1 + 1 + 1).toNat = E + 3 by omega]
  by_cases e : i = C
  · subst e; rw [if_pos rfl, if_pos rfl, if_pos (by omega)]
  rw [if_neg (fun h => e h.symm), if_neg e]
  by_cases e3 : i = E + 3
  · subst e3; rw [if_pos rfl, if_pos (by omega), if_neg (by omega), if_neg (by omega), if_neg (by omega), if_pos rfl]
  rw [if_neg (fun h => e3 h.symm)]
  by_cases e2 : i = E + 2
  · subst e2; rw [if_pos rfl, if_pos (by omega), if_neg (by omega), if_neg (by omega), if_pos rfl]
  rw [if_neg (fun h => e2 h.symm)]
  by_cases e1 : i = E + 1
  · subst e1; rw [if_pos rfl, if_pos (by omega), if_neg (by omega), if_pos rfl]
  rw [if_neg (fun h => e1 h.symm)]
  by_cases e0 : i = E
  · subst e0; rw [if_pos rfl, if_pos (by omega), if_pos rfl]
  rw [if_neg (fun h => e0 h.symm), if_neg e0, if_neg e1, if_neg e2, if_neg e3]

/-- What a save of a new word writes. -/
def Lg.saveP (L : Lg) (M : Mem) (n a : Int) : List (Int × Int) := addrL (L.entry (L.num M n)) (L.record M a) ++ [(L.addr + n - 1, IntKind.u8.wrap ((L.num M n : Int) + 1))]
theorem Lg.save_puts {M : Mem} {a : Int} (hok : L.Ok M.b.length) (ho : M.off = false) (hn : okGen n = true) (hc : L.can a = true) (h2 : ¬ a ∈ L.addrs M (L.num M n)) (h3 : ¬ (L.num M n : Int) = L.most) :
    L.save M n a = (errOf (M.puts (L.saveP M n a)).1, (M.puts (L.saveP M n a)).2) := by
  obtain ⟨k1, k2, k3, k4⟩ := hok
  have hNle := Lg.num_le (L := L) (M := M) (n := n) (by omega)
  obtain ⟨c1, c2, -⟩ := of_decide_eq_true hc
  have hE : L.entry (L.num M n) = L.addr + 3 + 4 * (L.num M n : Int) := rfl
  have hr : (L.record M a).length = 4 := by
    unfold Lg.record
    rw [Mem.readBytes_on (Mem.valid_iff.2 ⟨by omega, by omega, by omega⟩) ho]
    simp; omega
  unfold Lg.save Lg.saveP
  rw [if_neg (by simp [hn, hc]), if_neg h2, if_neg h3, Mem.writeBytes_puts ho (Mem.valid_iff.2 ⟨by omega, by omega, by rw [hr]; omega⟩), Mem.puts_append]
  by_cases h : (M.puts (addrL (L.entry (L.num M n)) (L.record M a))).1 = true
  · rw [if_neg (by simp [h]), if_pos h]
    simp only [Mem.puts]
    split
    · rename_i h2; rw [h2]
    · rename_i h2; rw [Bool.not_eq_true] at h2; rw [h2]
  · rw [if_neg h]
    rw [Bool.not_eq_true] at h
    rw [if_pos h, h]; rfl
theorem Lg.save_off {M : Mem} {a : Int} (hok : L.Ok M.b.length) (ho : M.off = true) : (L.save M n a).1 ≠ 0 ∧ (L.save M n a).2 = M := by
  have hm := hok.most
  have h0 : L.num M n = 0 := by
    unfold Lg.num
    split
    · unfold Lg.count; rw [Mem.read_off ho, if_neg (by omega)]; rfl
    · rfl
  unfold Lg.save
  split
  · exact ⟨by simp, rfl⟩
  · rw [h0, if_neg (by simp [Lg.addrs]), if_neg (by simp; omega), Mem.writeBytes_off ho (by simp [Lg.record])]
    simp
end
end Go.Proofs.Ytkkmiodambfbdaa
