/- The store of checkpoints as a whole: Last, Log, Commit. Conditions: short slices. -/
import Derived.Test.YthpdpipcfhodoaaSto36d
import Derived.Test.YthpdpipcfhodoaaSto36e
import Derived.Test.YthpdpipcfhodoaaSto36f
namespace Go.Proofs.Ythpdpipcfhodoaa
open Go.RowKit
set_option linter.unusedSimpArgs false
set_option maxHeartbeats 4000000
set_option linter.unusedVariables false

abbrev awC : Cl := ⟨0, 187⟩
abbrev awL (n : Nat) : Lg := ⟨768, 96, n⟩
def c36 (v m : Int) : Cp := ⟨v, -1, 0, m, [], [], [], 0, 0, 0, 0, [], 0, 0, 0⟩
def shCp (c : Cp) : Prop := c.vals.length ≤ 1000000 ∧ c.rem.length ≤ 1000000 ∧ c.add.length ≤ 1000000 ∧ c.rels.length ≤ 1000000
theorem NewCp.at {w0 w : World} {c : Cp} {vv vr va vl : Value} (S : List Nat) (h : NewCp w0 w c vv vr va vl) (hS : ∀ k, k ∈ S → k < w0.heap.size) (hs : shCp c) : CpAt w S c vv vr va vl := by
  obtain ⟨s1, s2, s3, s4⟩ := hs
  exact ⟨RdV.own S h.v hS, RdV.own S h.r hS, RdV.own S h.a hS, RdV.own S h.l hS, ⟨by omega, by omega, by omega, by omega⟩⟩
theorem NewCp.shape {w0 w : World} {c : Cp} {vv vr va vl : Value} (h : NewCp w0 w c vv vr va vl) : (∃ a n, vv = .slice a c.vals.length n) ∧ (∃ a n, vr = .slice a c.rem.length n) ∧ (∃ a n, va = .slice a c.add.length n) ∧ ∃ a n, vl = .slice a c.rels.length n :=
  ⟨(RdV.own [] h.v (by simp)).slice, (RdV.own [] h.r (by simp)).slice, (RdV.own [] h.a (by simp)).slice, (RdV.own [] h.l (by simp)).slice⟩
theorem NewCp.k {w0 w w' : World} {c : Cp} {vv vr va vl : Value} {S : List Nat} (h : NewCp w0 w c vv vr va vl) (hf : Fr w w' S) (hS : ∀ k, k ∈ S → k < w0.heap.size) : NewCp w0 w' c vv vr va vl :=
  ⟨own_kept h.v hf hS, own_kept h.r hf hS, own_kept h.a hf hS, own_kept h.l hf hS⟩
/-- A store: its cell, its log, its last checkpoint, of which no slice lies in the memory or in the store. -/
structure StoAt (w : World) (p c q g s : Nat) (gen : Int) (t : Cp) (M : Mem) : Prop where
  cell : IsCell w c g s awC M
  log : IsLog w q g s (awL M.b.length) M
  pn : p ∉ fp g s M
  rows : ∃ vv vr va vl, w.heap[p]? = some (.cells (stoV c q gen t vv vr va vl) 103 (0, 0)) ∧ CpAt w (p :: fp g s M) t vv vr va vl
  short : shCp t
section
variable {w w' : World} {p c q g s : Nat} {gen : Int} {t : Cp} {M : Mem}
theorem StoAt.mem (h : StoAt w p c q g s gen t M) : IsMem w g s M := h.cell.mem
theorem StoAt.lt (h : StoAt w p c q g s gen t M) : p < w.heap.size := by obtain ⟨_, _, _, _, e, _⟩ := h.rows; exact lt_of_block e
theorem StoAt.cq (h : StoAt w p c q g s gen t M) : p ≠ c ∧ p ≠ q := by
  obtain ⟨_, _, _, _, e, _⟩ := h.rows
  have h1 := h.cell.hc
  have h2 := h.log.hc
  constructor
  · rintro rfl; rw [e] at h1; simp at h1
  · rintro rfl; rw [e] at h2; simp at h2
theorem StoAt.k (h : StoAt w p c q g s gen t M) (hf : Fr w w' [] := by (focus ((repeat (first | assumption | exact Fr.refl _ _ | refine Fr.back (by assumption) (by first | exact fun k hk => .inl hk | (intro k hk; simp only [List.mem_cons, List.not_mem_nil, or_false] at hk ⊢ <;> first | omega | (simp [Value.ownBlock] at hk ⊢; omega) | (simp [fp, Mtr.blocks, *]; fail_if_success (focus skip)) | (simp [fp, Mtr.blocks, *]; omega)) | (refine subP (by assumption) ?_ ?_ <;> first | omega | (simp; fail_if_success (focus skip)) | exact fun k hk => .inl hk | (intro k hk; simp at hk ⊢; omega)) | (focus (repeat' (first | exact fun k hk => .inl hk | exact fun k hk => .inl (List.mem_cons_of_mem _ hk) | exact fun k hk => .inl (List.mem_cons_of_mem _ (List.mem_cons_of_mem _ hk)) | (with_reducible refine subC ?_ ?_) | (right; omega) | (left; simp; fail_if_success (focus skip)) | (left; simp [fp]; fail_if_success (focus skip)))); fail_if_success (focus skip))) ?_)); fail_if_success (focus skip)))) : StoAt w' p c q g s gen t M := by
  obtain ⟨vv, vr, va, vl, e, hc⟩ := h.rows
  exact ⟨h.cell.k, h.log.k, h.pn, ⟨vv, vr, va, vl, hf.blk e (by simp), hc.kk (hf.mono (by simp))⟩, h.short⟩
/-- The memory alone was written. -/
theorem StoAt.to {M' : Mem} (h : StoAt w p c q g s gen t M) (hf : Fr w w' (fp g s M)) (hm : IsMem w' g s M') (hfp : fp g s M' = fp g s M) (hl : M'.b.length = M.b.length) : StoAt w' p c q g s gen t M' := by
  obtain ⟨vv, vr, va, vl, e, hc⟩ := h.rows
  have hq := h.log.to hf hm hfp hl
  refine ⟨h.cell.to hf hm hfp hl, by rw [hl]; exact hq, by rw [hfp]; exact h.pn, ⟨vv, vr, va, vl, hf.blk e h.pn, ?_⟩, h.short⟩
  rw [hfp]
  exact hc.kk (hf.mono (fun k hk => List.mem_cons_of_mem _ hk))
theorem slast_calls (w : World) (h : StoAt w p c q g s gen t M) :
    Calls Try.prog 31 #[.pointer (some ⟨p, 0, none⟩)] w fun e w' => ∃ uv ur ua ul, e = .returned (.tuple #[cpV t uv ur ua ul, .bool (decide (0 < gen))]) ∧ NewCp w w' t uv ur ua ul ∧ Fr w w' [] := by
  obtain ⟨vv, vr, va, vl, e, hc⟩ := h.rows
  exact stlast_calls w e hc h.short
theorem slog_calls (a : Int) (w : World) (h : StoAt w p c q g s gen t M) (ha : -9223372036854775808 ≤ a ∧ a ≤ 9223372036854775807) :
    Calls Try.prog 27 #[.pointer (some ⟨p, 0, none⟩), .int .i64 a] w fun e w' => (gen = 0 ∧ e = .returned (.int .i64 10) ∧ Fr w w' []) ∨ (gen ≠ 0 ∧ e = .returned (.int .i64 ((awL M.b.length).save M gen a).1) ∧ StoAt w' p c q g s gen t ((awL M.b.length).save M gen a).2 ∧ Fr w w' (fp g s M)) := by
  obtain ⟨vv, vr, va, vl, e, hc⟩ := h.rows
  refine (stlog_calls a w e h.log ha).mono ?_
  rintro e w' (h1 | ⟨h1, h2, h3, h4⟩)
  · exact .inl h1
  · exact .inr ⟨h1, h2, h.to h4 h3.mem (by unfold fp; rw [Lg.save_blocks]) (Lg.save_len _ _ _ _), h4⟩
theorem stCommit_fp (C : Cl) (L : Lg) (M : Mem) (t : Cp) : (stCommit C L M t).2.mtr.blocks = M.mtr.blocks := by
  unfold stCommit Cl.write
  dsimp only
  repeat' split
  all_goals first | rfl | simp [Mem.write_blocks, Mem.writeBytes_blocks, Lg.clear_blocks]
theorem stCommit_len (C : Cl) (L : Lg) (M : Mem) (t : Cp) : (stCommit C L M t).2.b.length = M.b.length := by
  unfold stCommit Cl.write
  dsimp only
  repeat' split
  all_goals first | rfl | simp [Mem.write_len, Mem.writeBytes_len, Lg.clear_len]
theorem scommit_calls {u : Cp} {vv vr va vl : Value} (w : World) (h : StoAt w p c q g s gen t M) (hu : CpAt w (fp g s M) u vv vr va vl) (hin : CpIn u) (hs : shCp u) :
    Calls Try.prog 23 #[.pointer (some ⟨p, 0, none⟩), cpV u vv vr va vl] w fun e w' => e = .returned (.int .i64 (stCommit awC (awL M.b.length) M u).1) ∧ Fr w w' (p :: fp g s M) ∧
      StoAt w' p c q g s (if (stCommit awC (awL M.b.length) M u).1 = 0 then nextG (awC.current M).2 else gen) (if (stCommit awC (awL M.b.length) M u).1 = 0 then u else t) (stCommit awC (awL M.b.length) M u).2 := by
  obtain ⟨ov, or, oa, ol, e, hc⟩ := h.rows
  have hpl := h.lt
  have hfl := h.mem.fp_lt
  have hcq := h.cq
  have hqm := h.log.ne
  refine (stcommit_calls w e h.cell h.log h.pn hu hin hs).mono ?_
  rintro e' w' ⟨rfl, hC, hF, hh⟩
  have hfp : fp g s (stCommit awC (awL M.b.length) M u).2 = fp g s M := by unfold fp; rw [stCommit_fp]
  have hl := stCommit_len awC (awL M.b.length) M u
  refine ⟨rfl, hF, ?_⟩
  have hQ : IsLog w' q g s (awL (stCommit awC (awL M.b.length) M u).2.b.length) (stCommit awC (awL M.b.length) M u).2 := by
    refine ⟨by rw [hl]; exact hF.blk h.log.hc (by simp; exact ⟨fun e => hcq.2 e.symm, hqm⟩), hC.mem, by rw [hfp]; exact hqm, by rw [hl]; exact h.log.ok⟩
  rcases hh with ⟨h1, h2⟩ | ⟨h1, uv, ur, ua, ul, h2, h3⟩
  · rw [if_neg h1, if_neg h1]
    exact ⟨hC, hQ, by rw [hfp]; exact h.pn, ⟨ov, or, oa, ol, h2, by rw [hfp]; exact hc.kk hF⟩, h.short⟩
  · rw [if_pos h1, if_pos h1]
    refine ⟨hC, hQ, by rw [hfp]; exact h.pn, ⟨uv, ur, ua, ul, h2, ?_⟩, hs⟩
    refine h3.at _ ?_ hs
    rw [hfp]
    intro k hk
    rcases List.mem_cons.1 hk with rfl | hk
    · exact hpl
    · exact hfl k hk
/-- A commit of a checkpoint without slices. -/
theorem CpAt.none (w : World) (S : List Nat) (v m : Int) : CpAt w S (c36 v m) (.slice none 0 0) (.slice none 0 0) (.slice none 0 0) (.slice none 0 0) :=
  ⟨RdV.nil, RdV.nil, RdV.nil, RdV.nil, Nat.zero_le _, Nat.zero_le _, Nat.zero_le _, Nat.zero_le _⟩
theorem c36_ok {v m : Int} (hv : 0 ≤ v ∧ v ≤ 1000) : okCp (c36 v m) = true := by
  unfold okCp
  have h1 : okHead (c36 v m) = true := decide_eq_true (by show 0 ≤ v ∧ v ≤ 2147483647 ∧ (0 : Int) ≤ 0 ∧ (0 : Int) ≤ 2147483647 ∧ (-1 : Int) ≤ -1 ∧ (-1 : Int) < 8 ∧ (0 : Int) ≤ 0 ∧ (0 : Int) < 120 ∧ 0 ≤ 16 ∧ 0 = 0 ∧ 0 ≤ 8 ∧ 0 ≤ 8; omega)
  rw [h1]; rfl
theorem scommitC_calls (v m : Int) (w : World) (h : StoAt w p c q g s gen t M) (hm : -32768 ≤ m ∧ m ≤ 32767) :
    Calls Try.prog 23 #[.pointer (some ⟨p, 0, none⟩), .agg #[.int .i64 v, .int .i64 (-1), .int .i64 0, .int .i16 m, .slice none 0 0, .slice none 0 0, .slice none 0 0, .int .i64 0, .int .i64 0, .int .i64 0, .int .i64 0, .slice none 0 0, .int .i64 0, .int .i64 0, .int .i64 0]] w fun e w' => e = .returned (.int .i64 (stCommit awC (awL M.b.length) M (c36 v m)).1) ∧ Fr w w' (p :: fp g s M) ∧
      StoAt w' p c q g s (if (stCommit awC (awL M.b.length) M (c36 v m)).1 = 0 then nextG (awC.current M).2 else gen) (if (stCommit awC (awL M.b.length) M (c36 v m)).1 = 0 then (c36 v m) else t) (stCommit awC (awL M.b.length) M (c36 v m)).2 :=
  scommit_calls w h (CpAt.none w _ v m) ⟨hm, by simp [c36]⟩ ⟨Nat.zero_le _, Nat.zero_le _, Nat.zero_le _, Nat.zero_le _⟩
/-- A store opened where no checkpoint lies. -/
theorem sopen0_calls (w : World) (h : IsMem w g s M) (hoff : M.off = false) (hlen : 1280 ≤ M.b.length) (hno : (awC.read M).2.2 = false) :
    Calls Try.prog 20 #[.pointer (some ⟨g, 0, none⟩)] w fun e w' => ∃ p c q, w.heap.size ≤ p ∧ e = .returned (.tuple #[.pointer (some ⟨p, 0, none⟩), .int .i64 0]) ∧ StoAt w' p c q g s 0 cp0 M ∧ Fr w w' [] := by
  have hfl := h.fp_lt
  refine (stopen0_calls w h hoff hlen (by unfold okLog; exact decide_eq_true (by omega)) hno).mono ?_
  rintro e w' ⟨p, c, q, h1, h2, h3, rfl, h4, h5, h6, hF⟩
  refine ⟨p, c, q, h1, rfl, ⟨h5, h6, fun hm => by have := hfl p hm; omega, ⟨_, _, _, _, h4, ?_⟩, ⟨by decide, by decide, by decide, by decide⟩⟩, hF⟩
  exact ⟨RdV.nil, RdV.nil, RdV.nil, RdV.nil, by decide, by decide, by decide, by decide⟩
end
end Go.Proofs.Ythpdpipcfhodoaa
