/- The example of chapter 7, and the laws that read no model: what each computes. No condition. -/
import Derived.Test.YthpdpipcfhodoaaNvm2
import Derived.Test.YthpdpipcfhodoaaDrawL
namespace Go.Proofs.Ythpdpipcfhodoaa
open Go.RowKit
set_option linter.unusedSimpArgs false
set_option maxHeartbeats 4000000
set_option linter.unusedVariables false

theorem Mem.write_ok {M : Mem} (addr x : Int) (hv : M.valid addr 1 = true) (ho : M.off = false) (ha : M.armed = false) (hm : M.mtr = .off) (hw : IntKind.i64.wrap (M.writes + 1) = M.writes + 1) :
    M.write addr x = (true, { M with b := M.b.set addr.toNat x, writes := M.writes + 1 }) := by
  obtain ⟨b, off, armed, left, mtr, wr⟩ := M
  simp only at ho ha hm hw
  subst ho ha hm
  simp [Mem.write, hv, Mtr.tick, hw]

theorem RdB.kept2 {w w' : World} {S'' : List Nat} {v : Value} {l : List Int} (h : RdB w [] v l) (hf : Fr w w' []) (hS : ∀ k, k ∈ S'' → w.heap.size ≤ k) : RdB w' S'' v l := by
  obtain ⟨a, c, h1, h2, h3, h4⟩ := h
  refine ⟨a, c, h1, h2, h3, h4.imp (fun e => e) ?_⟩
  rintro ⟨b, o, e, _, hb, hc⟩
  exact ⟨b, o, e, fun hm => by have := hS b hm; omega, Nat.lt_of_lt_of_le hb hf.size, fun j hj => by rw [cell_fr hf hb (by simp)]; exact hc j hj⟩

theorem u8_wf {a : Int} (h : (Lit.int .u8 a).wf = true) : 0 ≤ a ∧ a ≤ 255 := by
  simp only [Lit.wf, Bool.and_eq_true, decide_eq_true_eq] at h
  exact h

theorem rdb_of_row {w : World} {a : Option Addr} {len cap : Nat} {zs : List Int} (h : (a = none ∧ len = 0 ∧ cap = 0 ∧ zs = []) ∨ ∃ x, a = some x ∧ len ≤ cap ∧ cap ≤ maxLen ∧ zs.length = cap ∧ (∀ i, i < zs.length → w.cell? (x.add i) = some (.int .u8 (zs.getD i 0))) ∧ ∀ n ∈ zs, (Lit.int .u8 n).wf = true) :
    (zs.take len).length = len ∧ RdB w [] (.slice a len cap) (zs.take len) := by
  rcases h with ⟨rfl, rfl, rfl, rfl⟩ | ⟨x, rfl, h1, h2, h3, h4, h5⟩
  · exact ⟨rfl, none, 0, rfl, Nat.le_refl _, by simp, .inl rfl⟩
  · have hl : (zs.take len).length = len := by simp; omega
    have hby : ∀ n ∈ zs, 0 ≤ n ∧ n < 256 := fun n hn => by
      have := u8_wf (h5 n hn)
      omega
    refine ⟨hl, some x, cap, by rw [hl], by omega, fun n hn => hby n (List.mem_of_mem_take hn), ?_⟩
    by_cases e : zs.take len = []
    · exact .inl e
    · right
      have hpos : 0 < len := by
        rcases Nat.eq_zero_or_pos len with h0 | h0
        · exact absurd (List.eq_nil_of_length_eq_zero (by omega)) e
        · exact h0
      obtain ⟨b, o, sp⟩ := x
      have hc0 := h4 0 (by omega)
      have hsp : sp = none := by
        cases sp with
        | none => rfl
        | some s =>
          simp only [Addr.add, if_true, World.cell?] at hc0
          split at hc0 <;> simp at hc0
      subst hsp
      have hb : b < w.heap.size := by
        simp only [Addr.add, if_true, World.cell?] at hc0
        split at hc0
        · rename_i hh; exact (Array.getElem?_eq_some_iff.1 hh).1
        · simp at hc0
      refine ⟨b, o, rfl, by simp, hb, fun j hj => ?_⟩
      have := h4 j (by omega)
      rw [show (Addr.add ⟨b, o, none⟩ j) = ⟨b, o + j, none⟩ by unfold Addr.add; split <;> simp_all] at this
      rw [this]
      congr 2
      simp only [List.getD_eq_getElem?_getD]
      rw [List.getElem?_take_of_lt (by omega)]

theorem wakes_mem : Mem.writeBytes ⟨[0, 0, 0, 0], false, true, 1, .off, 0⟩ 0 (wordL 513) = (false, ⟨[1, 0, 0, 0], true, true, 0, .off, 1⟩) := rfl

theorem Mem.write_bad {M : Mem} {addr x : Int} (h : M.valid addr 1 = false ∨ M.off = true) : M.write addr x = (false, M) := by
  unfold Mem.write; rw [if_pos h]


end Go.Proofs.Ythpdpipcfhodoaa
