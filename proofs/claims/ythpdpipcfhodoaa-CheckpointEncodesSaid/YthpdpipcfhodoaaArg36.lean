/- Chapter 36: arguments that are checkpoints. No condition. -/
import Derived.Test.YthpdpipcfhodoaaArg
import Derived.Test.YthpdpipcfhodoaaCkp4
namespace Go.Proofs.Ythpdpipcfhodoaa
open Go.RowKit
set_option linter.unusedSimpArgs false
set_option maxHeartbeats 4000000
set_option linter.unusedVariables false

theorem ArgC.row {w : World} {t e by_ : Nat} {k : IntKind} {cs : List Value} (h : ArgC w t cs) (ht : Try.prog.underlying t = some (.slice e)) (he : Try.prog.underlying e = some (.int k)) (hz : Try.prog.cellsOf e = 1) (hby : Try.prog.bytesOf e = by_) (hp : 0 < by_) :
    ∃ a len cap, ∃ l : List Int, cs = [.slice a len cap] ∧ l.length = len ∧ RdV w [] 1 (.slice a len cap) len (l.map (Value.int k)) ∧ (∀ x ∈ l, (Lit.int k x).wf = true) ∧ len ≤ 140737488351232 := by
  obtain ⟨a, len, cap, h1, h2, hm, h3, h4⟩ := h.slice ht (sz := 1) hz (by omega) hby
  have hlen : len ≤ 140737488351232 := Nat.le_trans (Nat.le_mul_of_pos_right _ hp) h3
  rcases h4 with h4 | ⟨b, o, rfl, h5, h6⟩
  · exact ⟨a, len, cap, [], h1, by simp [h4], ⟨a, cap, rfl, h2, by simp [h4], .inl (by simp)⟩, by simp, hlen⟩
  · obtain ⟨f, hf⟩ := skolem_lt (α := Int) (P := fun i n => (Lit.int k n).wf = true ∧ w.cell? ⟨b, o + i, none⟩ = some (.int k n)) (len := len) fun i hi => by
      obtain ⟨es, _, he', hc⟩ := h6 i hi
      obtain ⟨n, rfl, hn⟩ := he'.int he
      exact ⟨n, hn, by simpa using hc 0 _ rfl⟩
    refine ⟨_, len, cap, (List.range len).map f, h1, by simp, ⟨_, cap, rfl, h2, by simp, .inr ⟨b, o, rfl, by simp, h5, fun j u hj => ?_⟩⟩, ?_, hlen⟩
    · simp only [List.map_map, List.getElem?_map, List.getElem?_range, Option.map_eq_some_iff, Function.comp] at hj
      obtain ⟨i, hi, rfl⟩ := hj
      have hlt : j < len := by
        have := (List.getElem?_eq_some_iff.1 hi).1
        simpa using this
      rw [List.getElem?_range hlt] at hi
      cases hi
      exact (hf j hlt).2
    · intro x hx
      obtain ⟨i, hi, rfl⟩ := List.mem_map.1 hx
      exact (hf i (List.mem_range.1 hi)).1
abbrev cpL (c : Cp) (vv vr va vl : Value) : List Value := [.int .i64 c.ver, .int .i64 c.task, .int .i64 c.reg, .int .i16 c.msg, vv, vr, va, .int .i64 c.em, .int .i64 c.ac, .int .i64 c.ou, .int .i64 c.dn, vl, .int .i64 c.lo, .int .i64 c.hi, .int .i64 c.ep]
theorem cp_of_argC {w : World} {es : List Value} (h : ArgC w 28 es) : ∃ c vv vr va vl, es = cpL c vv vr va vl ∧ CpAt w [] c vv vr va vl ∧ CpIn c := by
  have hs := h.struct Try.underlying28
  have hl : es.length = 15 := hs.1.trans (by kernel_rfl)
  have c5 : Try.prog.cellsOf 3 = 1 := by kernel_rfl
  have c6 : Try.prog.cellsOf 2 = 1 := by kernel_rfl
  have g0 := h.field Try.underlying28 0 3 0 1 rfl c5
  have g1 := h.field Try.underlying28 1 3 1 1 rfl c5
  have g2 := h.field Try.underlying28 2 3 2 1 rfl c5
  have g3 := h.field Try.underlying28 3 22 3 1 rfl (by kernel_rfl)
  have g4 := h.field Try.underlying28 4 23 4 1 rfl (by kernel_rfl)
  have g5 := h.field Try.underlying28 5 24 5 1 rfl (by kernel_rfl)
  have g6 := h.field Try.underlying28 6 24 6 1 rfl (by kernel_rfl)
  have g7 := h.field Try.underlying28 7 2 7 1 rfl c6
  have g8 := h.field Try.underlying28 8 2 8 1 rfl c6
  have g9 := h.field Try.underlying28 9 2 9 1 rfl c6
  have ga := h.field Try.underlying28 10 2 10 1 rfl c6
  have gb := h.field Try.underlying28 11 24 11 1 rfl (by kernel_rfl)
  have gc := h.field Try.underlying28 12 26 12 2 rfl (by kernel_rfl)
  have gd := h.field Try.underlying28 13 3 14 1 rfl c5
  clear h hs
  obtain ⟨e0, e1, e2, e3, e4, e5, e6, e7, e8, e9, ea, eb, ec, ed, ee, rfl⟩ : ∃ e0 e1 e2 e3 e4 e5 e6 e7 e8 e9 ea eb ec ed ee, es = [e0, e1, e2, e3, e4, e5, e6, e7, e8, e9, ea, eb, ec, ed, ee] := by
    match es, hl with
    | [e0, e1, e2, e3, e4, e5, e6, e7, e8, e9, ea, eb, ec, ed, ee], _ => exact ⟨e0, e1, e2, e3, e4, e5, e6, e7, e8, e9, ea, eb, ec, ed, ee, rfl⟩
  simp only [List.drop_zero, List.drop_succ_cons, List.take_succ_cons, List.take_zero] at g0 g1 g2 g3 g4 g5 g6 g7 g8 g9 ga gb gc gd
  have gi := gc.field Try.underlying26 0 2 0 1 rfl c6
  have gj := gc.field Try.underlying26 1 2 1 1 rfl c6
  simp only [List.drop_zero, List.drop_succ_cons, List.take_succ_cons, List.take_zero] at gi gj
  clear gc
  obtain ⟨n0, h0, w0⟩ := g0.int Try.underlying3
  obtain ⟨n1, h1, w1⟩ := g1.int Try.underlying3
  obtain ⟨n2, h2, w2⟩ := g2.int Try.underlying3
  obtain ⟨n3, h3, w3⟩ := g3.int Try.underlying22
  obtain ⟨n7, h7, w7⟩ := g7.int Try.underlying2
  obtain ⟨n8, h8, w8⟩ := g8.int Try.underlying2
  obtain ⟨n9, h9, w9⟩ := g9.int Try.underlying2
  obtain ⟨na, ha, wa⟩ := ga.int Try.underlying2
  obtain ⟨nc, hc, wc⟩ := gi.int Try.underlying2
  obtain ⟨nd, hd, wd⟩ := gj.int Try.underlying2
  obtain ⟨ne, he, we⟩ := gd.int Try.underlying3
  obtain ⟨a4, l4, k4, L4, h4, m4, r4, b4, q4⟩ := g4.row Try.underlying23 Try.underlying22 (by kernel_rfl) (by_ := 2) (by kernel_rfl) (by decide)
  obtain ⟨a5, l5, k5, L5, h5, m5, r5, b5, q5⟩ := g5.row Try.underlying24 Try.underlying2 c6 (by_ := 8) (by kernel_rfl) (by decide)
  obtain ⟨a6, l6, k6, L6, h6, m6, r6, b6, q6⟩ := g6.row Try.underlying24 Try.underlying2 c6 (by_ := 8) (by kernel_rfl) (by decide)
  obtain ⟨ab, lb, kb, Lb, hb, mb, rb, bb, qb⟩ := gb.row Try.underlying24 Try.underlying2 c6 (by_ := 8) (by kernel_rfl) (by decide)
  simp only [List.cons.injEq, and_true] at h0 h1 h2 h3 h4 h5 h6 h7 h8 h9 ha hb hc hd he
  subst h0 h1 h2 h3 h4 h5 h6 h7 h8 h9 ha hb hc hd he
  subst m4 m5 m6 mb
  exact ⟨⟨n0, n1, n2, n3, L4, L5, L6, n7, n8, n9, na, Lb, nc, nd, ne⟩, _, _, _, _, rfl, ⟨r4, r5, r6, rb, q4, q5, q6, qb⟩, ⟨i16_wf w3, fun x hx => i16_wf (b4 x hx)⟩⟩
theorem cp_of_arg {w : World} {cs : Array Value} (h : Arg w 28 (.agg cs)) : ∃ c vv vr va vl, (.agg cs) = cpV c vv vr va vl ∧ CpAt w [] c vv vr va vl ∧ CpIn c := by
  obtain ⟨c, vv, vr, va, vl, h1, h2, h3⟩ := cp_of_argC h
  refine ⟨c, vv, vr, va, vl, ?_, h2, h3⟩
  simp only [Value.cells] at h1
  cases cs; simp at h1; subst h1; rfl
end Go.Proofs.Ythpdpipcfhodoaa
