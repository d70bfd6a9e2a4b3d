/- Chapter 46: the arguments of its laws. No condition. -/
import Derived.Test.YtlaodoakiijjnaaGw4
namespace Go.Proofs.Ytlaodoakiijjnaa
open Go.RowKit
set_option linter.unusedSimpArgs false
set_option maxHeartbeats 8000000
set_option linter.unusedVariables false

theorem bytes_of_arg {w : World} {a : Option Addr} {len cap : Nat} (h : Arg w 23 (.slice a len cap)) : ∃ lb, RdB w [] (.slice a len cap) lb ∧ lb.length ≤ 140737488351232 := by
  obtain ⟨a0, len0, cap0, l, e0, h1, h2, h3⟩ := h.c.bytes Try.underlying23 Try.underlying5 (by kernel_rfl) (by kernel_rfl)
  simp [Value.cells] at e0
  obtain ⟨rfl, rfl, rfl⟩ := e0
  exact ⟨l, h2, by omega⟩
theorem words_of_arg {w : World} {a : Option Addr} {len cap : Nat} (h : Arg w 22 (.slice a len cap)) : ∃ l : List Int, l.length = len ∧ RdV w [] 1 (.slice a len cap) len (wordsV l) ∧ (∀ x ∈ l, -32768 ≤ x ∧ x ≤ 32767) ∧ len ≤ 140737488351232 := by
  obtain ⟨a0, len0, cap0, h1, h2, hm, h3, h4⟩ := h.c.slice Try.underlying22 (sz := 1) (by kernel_rfl) (by omega) (by_ := 2) (by kernel_rfl)
  simp [Value.cells] at h1
  obtain ⟨rfl, rfl, rfl⟩ := h1
  rcases h4 with h4 | ⟨b, o, rfl, h5, h6⟩
  · exact ⟨[], by simp [h4], ⟨a, cap, rfl, h2, by simp [h4], .inl (by simp [h4])⟩, by simp, by omega⟩
  · obtain ⟨f, hf⟩ := skolem_lt (α := Int) (P := fun i n => (-32768 ≤ n ∧ n ≤ 32767) ∧ w.cell? ⟨b, o + i, none⟩ = some (.int .i16 n)) (len := len) fun i hi => by
      obtain ⟨es, _, he, hc⟩ := h6 i hi
      obtain ⟨n, rfl, hn⟩ := he.int Try.underlying34
      refine ⟨n, ?_, by simpa using hc 0 _ rfl⟩
      simp only [Lit.wf, Bool.and_eq_true, decide_eq_true_eq] at hn
      exact hn
    refine ⟨(List.range len).map f, by simp, ⟨_, cap, rfl, h2, by simp, .inr ⟨b, o, rfl, by simp, h5, fun j u hj => ?_⟩⟩, ?_, by omega⟩
    · simp only [List.map_map, List.getElem?_map, List.getElem?_range, Option.map_eq_some_iff, Function.comp] at hj
      obtain ⟨i, hi, rfl⟩ := hj
      have hlt : j < len := by
        have := (List.getElem?_eq_some_iff.1 hi).1
        simpa using this
      rw [List.getElem?_range hlt] at hi
      cases hi
      exact (hf j hlt).2
    · intro x hx
      obtain ⟨i, hi, rfl⟩ := List.mem_map.1 hx
      exact (hf i (List.mem_range.1 hi)).1
end Go.Proofs.Ytlaodoakiijjnaa
