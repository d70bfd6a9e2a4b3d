/- Plain laws of byte writes one after the other, in lists. No condition. -/
import Derived.Test.YthpdpipcfhodoaaNvm4
namespace Go.Proofs.Ythpdpipcfhodoaa
open Go.RowKit
set_option linter.unusedSimpArgs false
set_option maxHeartbeats 4000000
set_option linter.unusedVariables false

/-- Byte writes one after the other until one fails. -/
def Mem.puts (M : Mem) : List (Int × Int) → Bool × Mem
  | [] => (true, M)
  | p :: ps => if (M.write p.1 p.2).1 = true then (M.write p.1 p.2).2.puts ps else (false, (M.write p.1 p.2).2)
def putAll (b : List Int) : List (Int × Int) → List Int
  | [] => b
  | p :: ps => putAll (b.set p.1.toNat p.2) ps
def addrL (a : Int) : List Int → List (Int × Int)
  | [] => []
  | x :: xs => (a, x) :: addrL (a + 1) xs

theorem putAll_len (ps : List (Int × Int)) : ∀ b : List Int, (putAll b ps).length = b.length := by
  induction ps with
  | nil => intro b; rfl
  | cons p ps ih => intro b; rw [putAll, ih]; simp
theorem putAll_out {k : Nat} (ps : List (Int × Int)) : ∀ b : List Int, (∀ p ∈ ps, p.1.toNat ≠ k) → (putAll b ps)[k]? = b[k]? := by
  induction ps with
  | nil => intro b _; rfl
  | cons p ps ih =>
    intro b h
    rw [putAll, ih _ (fun q hq => h q (by simp [hq])), List.getElem?_set_ne (h p (by simp))]
theorem putAll_cut {m n : Nat} (ps : List (Int × Int)) (b : List Int) (h : ∀ p ∈ ps, p.1.toNat < m ∨ m + n ≤ p.1.toNat) : ((putAll b ps).drop m).take n = (b.drop m).take n := by
  apply List.ext_getElem?
  intro i
  simp only [List.getElem?_take, List.getElem?_drop]
  split
  · exact putAll_out ps b (fun p hp => by rcases h p hp with h1 | h1 <;> omega)
  · rfl
theorem putAll_append (ps qs : List (Int × Int)) : ∀ b : List Int, putAll b (ps ++ qs) = putAll (putAll b ps) qs := by
  induction ps with
  | nil => intro b; rfl
  | cons p ps ih => intro b; rw [List.cons_append, putAll, putAll, ih]
theorem addrL_mem : ∀ (l : List Int) (a : Int) (p : Int × Int), p ∈ addrL a l → a ≤ p.1 ∧ p.1 < a + l.length := by
  intro l
  induction l with
  | nil => intro a p h; simp [addrL] at h
  | cons x l ih =>
    intro a p h
    simp only [addrL, List.mem_cons] at h
    simp only [List.length_cons]
    rcases h with rfl | h
    · show a ≤ a ∧ a < _; omega
    · have := ih _ _ h; omega
theorem addrL_byt : ∀ (l : List Int) (a : Int) (p : Int × Int), p ∈ addrL a l → p.2 ∈ l := by
  intro l
  induction l with
  | nil => intro a p h; simp [addrL] at h
  | cons x l ih =>
    intro a p h
    simp only [addrL, List.mem_cons] at h
    rcases h with rfl | h
    · simp
    · simp [ih _ _ h]
theorem addrL_len : ∀ (l : List Int) (a : Int), (addrL a l).length = l.length := by
  intro l
  induction l with
  | nil => intro a; rfl
  | cons x l ih => intro a; simp [addrL, ih]
theorem putAll_addrL : ∀ (l : List Int) (a : Int) (b : List Int), 0 ≤ a → a + l.length ≤ b.length → putAll b (addrL a l) = putL b a.toNat l := by
  intro l
  induction l with
  | nil => intro a b h0 h1; rw [addrL, putAll, putL_nil]
  | cons x l ih =>
    intro a b h0 h1
    simp only [List.length_cons] at h1
    rw [addrL, putAll, ih _ _ (by omega) (by simp; omega), show (a + 1).toNat = a.toNat + 1 by omega, putL_set (by omega)]

theorem Mem.writeN_puts (l : List Int) : ∀ (M : Mem) (a : Int), M.writeN a l = M.puts (addrL a l) := by
  induction l with
  | nil => intro M a; rfl
  | cons x l ih => intro M a; simp only [Mem.writeN, addrL, Mem.puts]; rw [ih]
theorem Mem.puts_append (ps qs : List (Int × Int)) : ∀ M : Mem, M.puts (ps ++ qs) = if (M.puts ps).1 = true then (M.puts ps).2.puts qs else M.puts ps := by
  induction ps with
  | nil => intro M; simp [Mem.puts]
  | cons p ps ih =>
    intro M
    simp only [List.cons_append, Mem.puts]
    split
    · rw [ih]
    · simp

theorem Mem.puts_go (armed : Bool) : ∀ (ps : List (Int × Int)) (b : List Int) (left wr : Int), (∀ p ∈ ps, 0 ≤ p.1 ∧ p.1 < b.length) → 0 ≤ wr → wr + ps.length ≤ 1000000000000 → (armed = true → ps.length ≤ left ∧ left ≤ 9223372036854775807) →
    (Mem.mk b false armed left .off wr).puts ps = (true, ⟨putAll b ps, false, armed, if armed = true then left - ps.length else left, .off, wr + ps.length⟩) := by
  intro ps
  induction ps with
  | nil => intro b left wr h h0 h1 h2; cases armed <;> simp [Mem.puts, putAll]
  | cons p ps ih =>
    intro b left wr h h0 h1 h2
    obtain ⟨hp0, hp1⟩ := h p (by simp)
    simp only [List.length_cons] at h1 h2
    have hv : Mem.valid ⟨b, false, armed, left, .off, wr⟩ p.1 1 = true := Mem.valid_iff.2 ⟨by omega, by omega, by show p.1 + 1 ≤ (b.length : Int); omega⟩
    have hw : IntKind.i64.wrap (wr + 1) = wr + 1 := by rw [IntKind.wrap_i64]; omega
    have hwr : (Mem.mk b false armed left .off wr).write p.1 p.2 = (true, ⟨b.set p.1.toNat p.2, false, armed, if armed = true then left - 1 else left, .off, wr + 1⟩) := by
      unfold Mem.write
      rw [if_neg (by simp [hv]), if_neg (by rintro ⟨h3, h4⟩; have := h2 h3; simp only at h4; omega)]
      simp only [Mtr.tick, if_true, hw]
      cases armed with
      | false => simp
      | true =>
        have := h2 rfl
        have hl : IntKind.i64.wrap (left - 1) = left - 1 := by rw [IntKind.wrap_i64]; omega
        simp [hl]
    rw [Mem.puts, hwr]
    simp only [if_true]
    rw [ih _ _ _ (fun q hq => by rw [List.length_set]; exact h q (by simp [hq])) (by omega) (by omega) (by intro h3; have := h2 h3; rw [if_pos h3]; omega)]
    rw [putAll]
    simp only [List.length_cons, Prod.mk.injEq, true_and, Mem.mk.injEq]
    refine ⟨?_, by omega⟩
    cases armed with
    | false => simp
    | true => simp; omega
theorem Mem.puts_stop : ∀ (ps : List (Int × Int)) (b : List Int) (j : Nat) (wr : Int), (∀ p ∈ ps, 0 ≤ p.1 ∧ p.1 < b.length) → 0 ≤ wr → wr + ps.length ≤ 1000000000000 → j < ps.length → j ≤ 9223372036854775807 →
    (Mem.mk b false true j .off wr).puts ps = (false, ⟨putAll b (ps.take j), true, true, 0, .off, wr + j⟩) := by
  intro ps
  induction ps with
  | nil => intro b j wr h h0 h1 h2; simp at h2
  | cons p ps ih =>
    intro b j wr h h0 h1 h2 h3
    obtain ⟨hp0, hp1⟩ := h p (by simp)
    simp only [List.length_cons] at h1 h2
    have hv : ∀ lf : Int, Mem.valid ⟨b, false, true, lf, .off, wr⟩ p.1 1 = true := fun lf => Mem.valid_iff.2 ⟨by omega, by omega, by show p.1 + 1 ≤ (b.length : Int); omega⟩
    cases j with
    | zero =>
      have hwr : (Mem.mk b false true ((0 : Nat) : Int) .off wr).write p.1 p.2 = (false, ⟨b, true, true, 0, .off, wr⟩) := by simp [Mem.write, hv]
      rw [Mem.puts, hwr]
      simp [putAll]
    | succ j =>
      have hw : IntKind.i64.wrap (wr + 1) = wr + 1 := by rw [IntKind.wrap_i64]; omega
      have hl : IntKind.i64.wrap (((j + 1 : Nat) : Int) - 1) = j := by rw [IntKind.wrap_i64]; omega
      have hne : ¬ (((j + 1 : Nat) : Int) = 0) := by omega
      have hwr : (Mem.mk b false true ((j + 1 : Nat) : Int) .off wr).write p.1 p.2 = (true, ⟨b.set p.1.toNat p.2, false, true, j, .off, wr + 1⟩) := by
        simp only [Mem.write, hv, Mtr.tick, hw, hl, hne]
        simp
      rw [Mem.puts, hwr]
      simp only [if_true]
      rw [ih _ _ _ (fun q hq => by rw [List.length_set]; exact h q (by simp [hq])) (by omega) (by omega) (by omega) (by omega)]
      simp only [List.take_succ_cons, putAll, Prod.mk.injEq, true_and, Mem.mk.injEq]
      omega

theorem Mem.read_on {M : Mem} {a : Int} (ho : M.off = false) (h0 : 0 ≤ a) (h1 : a < M.b.length) : M.read a = M.b.getD a.toNat 0 := by
  unfold Mem.read
  rw [if_pos ⟨ho, Mem.valid_iff.2 ⟨h0, by omega, by omega⟩⟩]

theorem Mem.writeBytes_puts {M : Mem} {a : Int} {l : List Int} (ho : M.off = false) (hv : M.valid a l.length = true) : M.writeBytes a l = M.puts (addrL a l) := by
  rw [← Mem.writeN_puts]
  unfold Mem.writeBytes
  rw [if_pos hv]
  by_cases h : (M.writeN a l).1 = true
  · rw [if_pos h, Mem.writeN_on l a ho h]
    exact Prod.ext h.symm rfl
  · rw [if_neg h]
theorem Mem.puts_len (ps : List (Int × Int)) : ∀ M : Mem, (M.puts ps).2.b.length = M.b.length := by
  induction ps with
  | nil => intro M; rfl
  | cons p ps ih =>
    intro M
    rw [Mem.puts]
    split
    · rw [ih, Mem.write_len]
    · exact Mem.write_len _ _ _
theorem Mem.puts_on (ps : List (Int × Int)) : ∀ M : Mem, M.off = false → (M.puts ps).1 = true → (M.puts ps).2.off = false := by
  induction ps with
  | nil => intro M h _; exact h
  | cons p ps ih =>
    intro M h h1
    rw [Mem.puts] at h1 ⊢
    split at h1
    · rename_i h2
      rw [if_pos h2]
      exact ih _ (Mem.write_on h2) h1
    · simp at h1
/-- A byte that the writes set holds what they say, whatever was there. -/
theorem putAll_det {i : Nat} (ps : List (Int × Int)) : ∀ b c : List Int, b.length = c.length → (∃ p ∈ ps, p.1.toNat = i) → (putAll b ps)[i]? = (putAll c ps)[i]? := by
  induction ps with
  | nil => intro b c _ h; obtain ⟨p, hp, -⟩ := h; simp at hp
  | cons p ps ih =>
    intro b c hl h
    rw [putAll, putAll]
    by_cases he : ∃ q ∈ ps, q.1.toNat = i
    · exact ih _ _ (by simp [hl]) he
    · have hn : ∀ q ∈ ps, q.1.toNat ≠ i := fun q hq e => he ⟨q, hq, e⟩
      rw [putAll_out _ _ hn, putAll_out _ _ hn]
      obtain ⟨q, hq, e⟩ := h
      rcases List.mem_cons.1 hq with rfl | hq
      · simp only [List.getElem?_set, e, if_true, hl]
      · exact absurd e (hn q hq)
/-- Writes begun and then made whole: as if made once. -/
theorem putAll_again {qs ps : List (Int × Int)} (b : List Int) (h : ∀ q ∈ qs, ∃ p ∈ ps, p.1.toNat = q.1.toNat) : putAll (putAll b qs) ps = putAll b ps := by
  apply List.ext_getElem?
  intro i
  by_cases he : ∃ p ∈ ps, p.1.toNat = i
  · exact putAll_det ps _ _ (putAll_len _ _) he
  · have hn : ∀ q ∈ ps, q.1.toNat ≠ i := fun q hq e => he ⟨q, hq, e⟩
    rw [putAll_out _ _ hn, putAll_out _ _ hn]
    refine putAll_out qs b (fun q hq e => ?_)
    obtain ⟨p, hp, e2⟩ := h q hq
    exact hn p hp (e2.trans e)
end Go.Proofs.Ythpdpipcfhodoaa
