/- Bits of bytes: what a corruption changes, and that it undoes itself. No condition. -/
import Derived.Test.YtpaoongeaideiaaLaw44
namespace Go.Proofs.Ytpaoongeaideiaa
open Go.RowKit
set_option linter.unusedSimpArgs false
set_option maxHeartbeats 4000000
set_option linter.unusedVariables false

def bitAt (d : List Int) (k : Nat) : Bool := (d.getD (k / 8) 0).toNat.testBit (7 - k % 8)
def pbit (pat : Int) (j : Nat) : Bool := pat.toNat.testBit (15 - j)
theorem mask_pow (k : Nat) (hk : k < 8) : 128 / 2 ^ k = 2 ^ (7 - k) := by
  rcases (by omega : k = 0 ∨ k = 1 ∨ k = 2 ∨ k = 3 ∨ k = 4 ∨ k = 5 ∨ k = 6 ∨ k = 7) with rfl | rfl | rfl | rfl | rfl | rfl | rfl | rfl <;> decide
theorem mask16_pow (k : Nat) (hk : k < 16) : 32768 / 2 ^ k = 2 ^ (15 - k) := by
  rcases (by omega : k = 0 ∨ k = 1 ∨ k = 2 ∨ k = 3 ∨ k = 4 ∨ k = 5 ∨ k = 6 ∨ k = 7 ∨ k = 8 ∨ k = 9 ∨ k = 10 ∨ k = 11 ∨ k = 12 ∨ k = 13 ∨ k = 14 ∨ k = 15) with rfl | rfl | rfl | rfl | rfl | rfl | rfl | rfl | rfl | rfl | rfl | rfl | rfl | rfl | rfl | rfl <;> decide
theorem and_pow2 (n i : Nat) : n &&& 2 ^ i = if n.testBit i then 2 ^ i else 0 := by
  apply Nat.eq_of_testBit_eq
  intro j
  rw [Nat.testBit_and, Nat.testBit_two_pow]
  by_cases e : i = j
  · subst e
    cases h : n.testBit i <;> simp [h]
  · cases h : n.testBit i <;> simp [e, Nat.testBit_two_pow]
theorem pbit_shr {pat : Int} (hp : 0 ≤ pat ∧ pat ≤ 65535) {j : Nat} (hj : j < 16) : (bits .and .u16 (pat / 2 ^ (15 - (j : Int)).toNat) 1 = 0) ↔ pbit pat j = false := by
  obtain ⟨p, rfl⟩ := Int.eq_ofNat_of_zero_le hp.1
  rw [show (15 - (j : Int)).toNat = 15 - j by omega]
  have h1 : (p : Int) / 2 ^ (15 - j) = ((p / 2 ^ (15 - j) : Nat) : Int) := by push_cast; rfl
  have h2 : p / 2 ^ (15 - j) ≤ p := Nat.div_le_self _ _
  have h3 := bits_and16 (p / 2 ^ (15 - j)) 1 (by omega) (by omega)
  unfold pbit
  rw [h1, show (1 : Int) = ((1 : Nat) : Int) from rfl, h3, Int.toNat_natCast, Nat.testBit_eq_decide_div_mod_eq, Nat.and_one_is_mod]
  simp only [decide_eq_false_iff_not]
  omega
theorem pbit_mask {pat : Int} (hp : 0 ≤ pat ∧ pat ≤ 65535) {j : Nat} (hj : j < 16) : decide (bits .and .u16 pat (32768 / 2 ^ j) ≠ 0) = pbit pat j := by
  obtain ⟨p, rfl⟩ := Int.eq_ofNat_of_zero_le hp.1
  have h1 : (32768 : Int) / 2 ^ j = ((2 ^ (15 - j) : Nat) : Int) := by
    rcases (by omega : j = 0 ∨ j = 1 ∨ j = 2 ∨ j = 3 ∨ j = 4 ∨ j = 5 ∨ j = 6 ∨ j = 7 ∨ j = 8 ∨ j = 9 ∨ j = 10 ∨ j = 11 ∨ j = 12 ∨ j = 13 ∨ j = 14 ∨ j = 15) with rfl | rfl | rfl | rfl | rfl | rfl | rfl | rfl | rfl | rfl | rfl | rfl | rfl | rfl | rfl | rfl <;> decide
  have h2 : 2 ^ (15 - j) < 65536 := Nat.lt_of_le_of_lt (Nat.pow_le_pow_right (by omega) (show 15 - j ≤ 15 by omega)) (by decide)
  unfold pbit
  rw [h1, bits_and16 p _ (by omega) h2, Int.toNat_natCast, and_pow2]
  have h3 : 0 < 2 ^ (15 - j) := Nat.pow_pos (by omega)
  cases p.testBit (15 - j)
  · simp
  · simp only [if_true, decide_eq_true_eq]
    omega
theorem byte_mask {x : Int} (hx : 0 ≤ x ∧ x < 256) {k : Nat} (hk : k < 8) : bits .and .u8 x (128 / 2 ^ k) = if x.toNat.testBit (7 - k) then ((2 ^ (7 - k) : Nat) : Int) else 0 := by
  obtain ⟨n, rfl⟩ := Int.eq_ofNat_of_zero_le hx.1
  obtain ⟨h1, h2⟩ := pow_mask k hk
  rw [h1, bits_and8 n _ (by omega) h2, mask_pow k hk, Int.toNat_natCast, and_pow2]
  cases n.testBit (7 - k) <;> simp
theorem byte_in {d : List Int} (hd : ∀ x ∈ d, 0 ≤ x ∧ x < 256) (i : Nat) : 0 ≤ d.getD i 0 ∧ d.getD i 0 < 256 := by
  rw [List.getD_eq_getElem?_getD]
  cases h : d[i]? with
  | none => simp
  | some x => exact hd x (List.mem_of_getElem? h)
theorem bits_ne {d e : List Int} (hd : ∀ x ∈ d, 0 ≤ x ∧ x < 256) (he : ∀ x ∈ e, 0 ≤ x ∧ x < 256) (k : Nat) :
    decide (bits .and .u8 (d.getD (k / 8) 0) (128 / 2 ^ (k % 8)) ≠ bits .and .u8 (e.getD (k / 8) 0) (128 / 2 ^ (k % 8))) = (bitAt d k != bitAt e k) := by
  have hk : k % 8 < 8 := Nat.mod_lt _ (by omega)
  rw [byte_mask (byte_in hd _) hk, byte_mask (byte_in he _) hk]
  unfold bitAt
  have h3 : 0 < 2 ^ (7 - k % 8) := Nat.pow_pos (by omega)
  generalize 2 ^ (7 - k % 8) = q at h3
  cases (d.getD (k / 8) 0).toNat.testBit (7 - k % 8) <;> cases (e.getD (k / 8) 0).toNat.testBit (7 - k % 8) <;> simp <;> omega
theorem eq_of_bits {d e : List Int} (hl : d.length = e.length) (hd : ∀ x ∈ d, 0 ≤ x ∧ x < 256) (he : ∀ x ∈ e, 0 ≤ x ∧ x < 256) (h : ∀ k, k < 8 * d.length → bitAt d k = bitAt e k) : d = e := by
  apply List.ext_getElem hl
  intro i h1 h2
  have hx := hd _ (List.getElem_mem h1)
  have hy := he _ (List.getElem_mem h2)
  have : d[i].toNat = e[i].toNat := by
    apply Nat.eq_of_testBit_eq
    intro j
    by_cases hj : j < 8
    · have hb := h (8 * i + (7 - j)) (by omega)
      unfold bitAt at hb
      rw [show (8 * i + (7 - j)) / 8 = i by omega, show 7 - (8 * i + (7 - j)) % 8 = j by omega, List.getD_eq_getElem?_getD, List.getD_eq_getElem?_getD, List.getElem?_eq_getElem h1, List.getElem?_eq_getElem h2] at hb
      exact hb
    · rw [Nat.testBit_lt_two_pow, Nat.testBit_lt_two_pow]
      · exact Nat.lt_of_lt_of_le (show e[i].toNat < 2 ^ 8 by omega) (Nat.pow_le_pow_right (by omega) (by omega))
      · exact Nat.lt_of_lt_of_le (show d[i].toNat < 2 ^ 8 by omega) (Nat.pow_le_pow_right (by omega) (by omega))
  omega
theorem bitAt_flip {b : List Int} (hb : ∀ x ∈ b, 0 ≤ x ∧ x < 256) {m : Nat} (hm : m < 8 * b.length) (k : Nat) :
    bitAt (b.set (m / 8) (bits .xor .u8 (b.getD (m / 8) 0) (128 / 2 ^ (m % 8)))) k = (bitAt b k ^^ decide (k = m)) := by
  unfold bitAt
  by_cases e : k / 8 = m / 8
  · rw [e, List.getD_eq_getElem?_getD, List.getElem?_set_self (by omega), Option.getD_some]
    obtain ⟨n, hn⟩ := Int.eq_ofNat_of_zero_le (byte_in hb (m / 8)).1
    have hn2 := (byte_in hb (m / 8)).2
    rw [hn] at hn2 ⊢
    obtain ⟨h1, h2⟩ := pow_mask (m % 8) (Nat.mod_lt _ (by omega))
    rw [h1, bits_xor8 n _ (by omega) h2, mask_pow _ (Nat.mod_lt _ (by omega)), Int.toNat_natCast, Int.toNat_natCast, Nat.testBit_xor, Nat.testBit_two_pow]
    congr 1
    rw [decide_eq_decide]
    constructor
    · intro h; omega
    · intro h; subst h; rfl
  · rw [List.getD_eq_getElem?_getD, List.getElem?_set_ne (fun h => e h.symm), ← List.getD_eq_getElem?_getD, decide_eq_false (fun h => e (by rw [h])), Bool.xor_false]
theorem flipTo_bits {d : List Int} {bit : Nat} {pat : Int} (hp : 0 ≤ pat ∧ pat ≤ 65535) (hd : ∀ x ∈ d, 0 ≤ x ∧ x < 256) : ∀ (n : Nat), n ≤ 16 → ∀ {b : List Int}, flipTo d bit pat n = some b →
    ∀ k, bitAt b k = (bitAt d k ^^ (decide (bit ≤ k ∧ k < bit + n) && pbit pat (k - bit)))
  | 0, _, b, h, k => by
    cases h
    rw [decide_eq_false (by omega)]; simp
  | n + 1, hn, b, h, k => by
    unfold flipTo at h
    split at h
    · cases h
    · rename_i b0 hb0
      have ih := flipTo_bits hp hd n (by omega) hb0 k
      obtain ⟨hl, hby⟩ := flipTo_ok hd n hb0
      split at h
      · rename_i hz
        cases h
        rw [ih]
        congr 1
        by_cases hk : k = bit + n
        · subst hk
          rw [show bit + n - bit = n by omega, (pbit_shr hp (by omega)).1 hz]; simp
        · congr 1
          rw [decide_eq_decide]; omega
      · rename_i hz
        split at h
        · cases h
        · cases h
          rw [Int.toNat_natCast, bitAt_flip hby (by omega), ih]
          have hpb : pbit pat n = true := by
            cases hq : pbit pat n
            · exact absurd ((pbit_shr hp (by omega)).2 hq) hz
            · rfl
          by_cases hk : k = bit + n
          · subst hk
            rw [show bit + n - bit = n by omega, hpb, decide_eq_false (show ¬ (bit ≤ bit + n ∧ bit + n < bit + n) by omega), decide_eq_true (show bit ≤ bit + n ∧ bit + n < bit + (n + 1) by omega), decide_eq_true rfl]
            simp
          · rw [decide_eq_false hk, Bool.xor_false]
            congr 2
            rw [decide_eq_decide]; omega
theorem flipTo_len {d e : List Int} {bit : Nat} {pat : Int} (hl : d.length = e.length) : ∀ n, (flipTo d bit pat n = none) ↔ (flipTo e bit pat n = none)
  | 0 => by simp [flipTo]
  | n + 1 => by
    have ih := flipTo_len (bit := bit) (pat := pat) hl n
    unfold flipTo
    cases h1 : flipTo d bit pat n with
    | none => rw [ih.1 h1]
    | some b1 =>
      cases h2 : flipTo e bit pat n with
      | none => rw [ih.2 h2] at h1; cases h1
      | some b2 =>
        dsimp only
        rw [hl]
        split
        · simp
        · split <;> simp
theorem flipTo_back {d e : List Int} {bit : Nat} {pat : Int} (hp : 0 ≤ pat ∧ pat ≤ 65535) (hd : ∀ x ∈ d, 0 ≤ x ∧ x < 256) (h : flipTo d bit pat 16 = some e) : flipTo e bit pat 16 = some d := by
  obtain ⟨hl, he⟩ := flipTo_ok hd 16 h
  cases h2 : flipTo e bit pat 16 with
  | none => rw [(flipTo_len hl.symm 16).2 h2] at h; cases h
  | some z =>
    obtain ⟨hl2, hz⟩ := flipTo_ok he 16 h2
    have e1 := flipTo_bits hp hd 16 (by omega) h
    have e2 := flipTo_bits hp he 16 (by omega) h2
    congr 1
    refine eq_of_bits (by omega) hz hd fun k _ => ?_
    rw [e2, e1, Bool.xor_assoc, Bool.xor_self, Bool.xor_false]
section
variable {M : Md} {n : Int}
theorem kset_asc {x : Int} {d : List Int} {ks : List Pk} (h : ks.Pairwise fun a b => a.id < b.id) : (kset x d ks).Pairwise fun a b => a.id < b.id := by
  have : ((kset x d ks).map (·.id)).Pairwise (· < ·) := by rw [kset_ids, List.pairwise_map]; exact h
  rwa [List.pairwise_map] at this
theorem Md.Ok.corrupt (h : M.Ok n) (hn : n < 1000000) (x bit pat : Int) (hby : ∀ k ∈ M.ps, ∀ z ∈ k.data, 0 ≤ z ∧ z < 256) : (M.corrupt x bit pat).2.Ok (n + 1) := by
  unfold Md.corrupt
  cases hk : kget x M.ps with
  | none => exact h.up hn
  | some k =>
    dsimp only
    split
    · exact h.up hn
    · cases hf : flipTo k.data bit.toNat pat 16 with
      | none => exact h.up hn
      | some b =>
        have hkm := (kget_mem hk).1
        obtain ⟨hl, -⟩ := flipTo_ok (hby k hkm) 16 hf
        have hids := h.ids k hkm
        obtain ⟨a, b', c, d0, e, f, g, i, j, k', l⟩ := h
        refine ⟨by omega, b', by show 0 ≤ M.last ∧ M.last ≤ n + 1; omega, by show 0 ≤ M.c0 ∧ M.c0 ≤ n + 1; omega, by show 0 ≤ M.c1 ∧ M.c1 ≤ n + 1; omega, by show 0 ≤ M.c2 ∧ M.c2 ≤ n + 1; omega, by show 0 ≤ M.c3 ∧ M.c3 ≤ n + 1; omega, by show 0 ≤ M.c4 + 1 ∧ M.c4 + 1 ≤ n + 1; omega, ?_, ?_, kset_asc l⟩
        · have := congrArg List.length (kset_ids (x := x) (d := b) (ks := M.ps))
          simp only [List.length_map] at this
          show ((kset x b M.ps).length : Int) ≤ M.most
          omega
        · intro y hy
          rcases kset_mem hy with hy | ⟨h1, k2, h2, h3⟩
          · exact k' y hy
          · have := k' k2 h2
            rw [← h3, h1, hl]
            exact ⟨this.1, this.2.1, hids.2.2⟩
end
end Go.Proofs.Ytpaoongeaideiaa
