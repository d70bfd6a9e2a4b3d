/- Plain laws of the log: one generation and the others. No condition. -/
import Derived.Test.YtkkmiodambfbdaaUndoT
namespace Go.Proofs.Ytkkmiodambfbdaa
open Go.RowKit
set_option linter.unusedSimpArgs false
set_option maxHeartbeats 4000000
set_option linter.unusedVariables false

section
variable {L : Lg}
theorem Lg.num_read {M M' : Mem} {g : Int} (h : M'.read (L.addr + g - 1) = M.read (L.addr + g - 1)) : L.num M' g = L.num M g := by
  unfold Lg.num Lg.count
  rw [h]
theorem mem_read {b b' : List Int} {wr wr' : Int} (hl : b'.length = b.length) {i : Int} (h0 : 0 ≤ i) (h1 : i < b.length) (h : b'[i.toNat]? = b[i.toNat]?) :
    (mem b' false false 0 wr').read i = (mem b false false 0 wr).read i := by
  rw [Mem.read_on rfl h0 (by show i < (b'.length : Int); omega), Mem.read_on rfl h0 (by show i < (b.length : Int); omega)]
  show b'.getD i.toNat 0 = b.getD i.toNat 0
  rw [List.getD_eq_getElem?_getD, List.getD_eq_getElem?_getD, h]

/-- Clearing a generation leaves the others alone. -/
theorem Lg.gen_clear {b : List Int} {wr : Int} (n : Int) (hok : L.Ok b.length) (hw : 0 ≤ wr ∧ wr ≤ 1000000) :
    ∃ b' wr', (L.clear (mem b false false 0 wr) n).2 = mem b' false false 0 wr' ∧ b'.length = b.length ∧ 0 ≤ wr' ∧ wr' ≤ wr + 1 ∧
      ∀ g : Int, 1 ≤ g ∧ g ≤ 3 → g ≠ n → L.num (mem b' false false 0 wr') g = L.num (mem b false false 0 wr) g ∧
        L.addrs (mem b' false false 0 wr') (L.num (mem b false false 0 wr) g) = L.addrs (mem b false false 0 wr) (L.num (mem b false false 0 wr) g) ∧
        L.vals (mem b' false false 0 wr') (L.num (mem b false false 0 wr) g) = L.vals (mem b false false 0 wr) (L.num (mem b false false 0 wr) g) := by
  obtain ⟨h1, h2, h3, h4⟩ := hok
  unfold Lg.clear
  by_cases hn : okGen n = false
  · rw [if_pos hn]
    exact ⟨b, wr, rfl, rfl, by omega, by omega, fun g _ _ => ⟨rfl, rfl, rfl⟩⟩
  · rw [if_neg hn]
    have hg := of_decide_eq_true (show okGen n = true by simpa using hn)
    have hw' : IntKind.i64.wrap (wr + 1) = wr + 1 := by rw [IntKind.wrap_i64]; omega
    have e : (mem b false false 0 wr).write (L.addr + n - 1) 0 = (true, mem (b.set (L.addr + n - 1).toNat 0) false false 0 (wr + 1)) := by
      rw [Mem.write_ok (M := mem b false false 0 wr) _ _ (Mem.valid_iff.2 ⟨by omega, by omega, by show L.addr + n - 1 + 1 ≤ (b.length : Int); omega⟩) rfl rfl rfl hw']
    rw [e]
    refine ⟨_, _, rfl, by rw [List.length_set], by omega, by omega, fun g hg1 hgn => ?_⟩
    have hrd : ∀ i : Int, 0 ≤ i → i < b.length → i ≠ L.addr + n - 1 → (mem (b.set (L.addr + n - 1).toNat 0) false false 0 (wr + 1)).read i = (mem b false false 0 wr).read i := by
      intro i hi0 hi1 hi2
      exact mem_read (by rw [List.length_set]) hi0 hi1 (List.getElem?_set_ne (by omega))
    have hNle := Lg.num_le (L := L) (M := mem b false false 0 wr) (n := g) (by omega)
    refine ⟨Lg.num_read (hrd _ (by omega) (by omega) (by omega)), ?_, ?_⟩
    · unfold Lg.addrs
      apply List.map_congr_left
      intro i hi
      have hi' : i < L.num (mem b false false 0 wr) g := by simpa using hi
      have e : L.entry i = L.addr + 3 + 4 * i := rfl
      rw [Mem.readWord_eq (M := mem b false false 0 wr) (by show (b.set _ _).length = b.length; rw [List.length_set]) (hrd _ (by omega) (by omega) (by omega)) (hrd _ (by omega) (by omega) (by omega))]
    · unfold Lg.vals
      apply List.map_congr_left
      intro i hi
      have hi' : i < L.num (mem b false false 0 wr) g := by simpa using hi
      have e : L.entry i = L.addr + 3 + 4 * i := rfl
      rw [Mem.readWord_eq (M := mem b false false 0 wr) (by show (b.set _ _).length = b.length; rw [List.length_set]) (hrd _ (by omega) (by omega) (by omega)) (hrd _ (by omega) (by omega) (by omega))]

/-- A save in a generation leaves the numbers of the others alone; what it does itself. -/
theorem Lg.gen_save {b : List Int} {wr : Int} (n a : Int) (hok : L.Ok b.length) (hw : 0 ≤ wr ∧ wr ≤ 1000000) :
    ∃ b' wr', (L.save (mem b false false 0 wr) n a).2 = mem b' false false 0 wr' ∧ b'.length = b.length ∧ 0 ≤ wr' ∧ wr' ≤ wr + 5 ∧
      ∀ g : Int, 1 ≤ g ∧ g ≤ 3 → g ≠ n → L.num (mem b' false false 0 wr') g = L.num (mem b false false 0 wr) g := by
  obtain ⟨N, hN⟩ : ∃ N, L.num (mem b false false 0 wr) n = N := ⟨_, rfl⟩
  have hNle := Lg.num_le (L := L) (M := mem b false false 0 wr) (n := n) (by have := hok.most; omega)
  have same : ∀ e : Int, L.save (mem b false false 0 wr) n a = (e, mem b false false 0 wr) → ∃ b' wr', (L.save (mem b false false 0 wr) n a).2 = mem b' false false 0 wr' ∧ b'.length = b.length ∧ 0 ≤ wr' ∧ wr' ≤ wr + 5 ∧
      ∀ g : Int, 1 ≤ g ∧ g ≤ 3 → g ≠ n → L.num (mem b' false false 0 wr') g = L.num (mem b false false 0 wr) g := by
    intro e h
    rw [h]
    exact ⟨b, wr, rfl, rfl, by omega, by omega, fun g _ _ => rfl⟩
  by_cases e1 : okGen n = false ∨ L.can a = false
  · exact same 1 (by unfold Lg.save; rw [if_pos e1])
  have hc : L.can a = true := by cases h : L.can a; exact absurd (.inr h) e1; rfl
  have hn : okGen n = true := by cases h : okGen n; exact absurd (.inl h) e1; rfl
  by_cases e2 : a ∈ L.addrs (mem b false false 0 wr) (L.num (mem b false false 0 wr) n)
  · exact same 0 (by unfold Lg.save; rw [if_neg e1, if_pos e2])
  by_cases e3 : (L.num (mem b false false 0 wr) n : Int) = L.most
  · exact same 7 (by unfold Lg.save; rw [if_neg e1, if_neg e2, if_pos e3])
  rw [Lg.save_puts (M := mem b false false 0 wr) hok rfl hn hc e2 e3]
  obtain ⟨h1, h2, hf, h4⟩ := id hok
  obtain ⟨c1, c2, c3⟩ := of_decide_eq_true hc
  have hgn := of_decide_eq_true hn
  have hE : L.entry (L.num (mem b false false 0 wr) n) = L.addr + 3 + 4 * (L.num (mem b false false 0 wr) n : Int) := rfl
  have hrl : (L.record (mem b false false 0 wr) a).length = 4 := by
    unfold Lg.record
    rw [Mem.readBytes_on (Mem.valid_iff.2 ⟨by omega, by omega, by show a + 2 ≤ (b.length : Int); omega⟩) rfl]
    simp; omega
  have hin : ∀ p ∈ L.saveP (mem b false false 0 wr) n a, (p.1 = L.addr + n - 1 ∨ L.addr + 3 ≤ p.1) ∧ 0 ≤ p.1 ∧ p.1 < b.length := by
    intro p hp
    unfold Lg.saveP at hp
    rcases List.mem_append.1 hp with hp | hp
    · have := addrL_mem _ _ p hp
      rw [hrl] at this; omega
    · rw [List.mem_singleton] at hp; subst hp
      show (L.addr + n - 1 = L.addr + n - 1 ∨ _) ∧ 0 ≤ L.addr + n - 1 ∧ L.addr + n - 1 < _; omega
  have hlen : (L.saveP (mem b false false 0 wr) n a).length = 5 := by
    unfold Lg.saveP; rw [List.length_append, addrL_len, hrl]; rfl
  rw [Mem.puts_go false _ b 0 wr (fun p hp => (hin p hp).2) hw.1 (by omega) (by simp)]
  simp only [Bool.false_eq_true, if_false]
  refine ⟨_, _, rfl, putAll_len _ _, by omega, by omega, fun g hg hne => ?_⟩
  exact Lg.num_read (mem_read (putAll_len _ _) (by omega) (by omega) (putAll_out _ _ (fun p hp e => by have := hin p hp; omega)))
end
end Go.Proofs.Ytkkmiodambfbdaa
