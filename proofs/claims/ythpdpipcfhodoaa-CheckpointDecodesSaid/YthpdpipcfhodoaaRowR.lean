/- Rows of rows of bytes. No condition. -/
import Derived.Test.YthpdpipcfhodoaaRow
namespace Go.Proofs.Ythpdpipcfhodoaa
open Go.RowKit
set_option linter.unusedSimpArgs false
set_option maxHeartbeats 4000000
set_option linter.unusedVariables false

/-- The slice `v` of byte slices reads as `ls`; none of its blocks is one of `S`. -/
def RdR (w : World) (S : List Nat) (v : Value) (ls : List (List Int)) : Prop :=
  ∃ vs : List Value, RdV w S 1 v ls.length vs ∧ ∀ i u, vs[i]? = some u → RdB w S u (ls.getD i [])

section
variable {w w' : World} {S S' : List Nat} {v : Value} {ls : List (List Int)}
theorem RdR.kk (h : RdR w S v ls) (hf : Fr w w' S) : RdR w' S v ls := by
  obtain ⟨vs, h2, h3⟩ := h
  exact ⟨vs, h2.kk hf, fun i u hu => (h3 i u hu).kk hf⟩
theorem RdR.mono (h : RdR w S v ls) (hs : ∀ k, k ∈ S' → k ∈ S) : RdR w S' v ls := by
  obtain ⟨vs, h2, h3⟩ := h
  exact ⟨vs, h2.mono hs, fun i u hu => (h3 i u hu).mono hs⟩
theorem RdR.k (h : RdR w S v ls) (hf : Fr w w' S := by (focus ((repeat (first | assumption | exact Fr.refl _ _ | refine Fr.back (by assumption) (by first | exact fun k hk => .inl hk | (intro k hk; simp only [List.mem_cons, List.not_mem_nil, or_false] at hk ⊢ <;> first | omega | (simp [Value.ownBlock] at hk ⊢; omega) | (simp [fp, Mtr.blocks, *]; fail_if_success (focus skip)) | (simp [fp, Mtr.blocks, *]; omega)) | (refine subP (by assumption) ?_ ?_ <;> first | omega | (simp; fail_if_success (focus skip)) | exact fun k hk => .inl hk | (intro k hk; simp at hk ⊢; omega)) | (focus (repeat' (first | exact fun k hk => .inl hk | exact fun k hk => .inl (List.mem_cons_of_mem _ hk) | exact fun k hk => .inl (List.mem_cons_of_mem _ (List.mem_cons_of_mem _ hk)) | (with_reducible refine subC ?_ ?_) | (right; omega) | (left; simp; fail_if_success (focus skip)) | (left; simp [fp]; fail_if_success (focus skip)))); fail_if_success (focus skip))) ?_)); fail_if_success (focus skip)))) (hs : ∀ k, k ∈ S' → k ∈ S := by first | exact fun _ h => h | (simp; fail_if_success (focus skip)) | (simp +contextual; fail_if_success (focus skip))) : RdR w' S' v ls := (h.kk hf).mono hs
theorem RdR.g (T : List Nat) (h : RdR w S v ls) (hT : ∀ k, k ∈ T → w.heap.size ≤ k := by (simp; try omega)) (hf : Fr w w' S := by (focus ((repeat (first | assumption | exact Fr.refl _ _ | refine Fr.back (by assumption) (by first | exact fun k hk => .inl hk | (intro k hk; simp only [List.mem_cons, List.not_mem_nil, or_false] at hk ⊢ <;> first | omega | (simp [Value.ownBlock] at hk ⊢; omega) | (simp [fp, Mtr.blocks, *]; fail_if_success (focus skip)) | (simp [fp, Mtr.blocks, *]; omega)) | (refine subP (by assumption) ?_ ?_ <;> first | omega | (simp; fail_if_success (focus skip)) | exact fun k hk => .inl hk | (intro k hk; simp at hk ⊢; omega)) | (focus (repeat' (first | exact fun k hk => .inl hk | exact fun k hk => .inl (List.mem_cons_of_mem _ hk) | exact fun k hk => .inl (List.mem_cons_of_mem _ (List.mem_cons_of_mem _ hk)) | (with_reducible refine subC ?_ ?_) | (right; omega) | (left; simp; fail_if_success (focus skip)) | (left; simp [fp]; fail_if_success (focus skip)))); fail_if_success (focus skip))) ?_)); fail_if_success (focus skip)))) : RdR w' (T ++ S) v ls := by
  obtain ⟨vs, h2, h3⟩ := h
  exact ⟨vs, h2.g T hT hf, fun i u hu => (h3 i u hu).g T hT hf⟩
theorem RdR.slice (h : RdR w S v ls) : ∃ a c, v = .slice a ls.length c := by
  obtain ⟨vs, h2, h3⟩ := h
  exact h2.slice
theorem RdR.get {i : Nat} (h : RdR w S v ls) (hi : i < ls.length) : ∃ b o c u, v = .slice (some ⟨b, o, none⟩) ls.length c ∧ RdB w S u (ls.getD i []) ∧ ∀ w', Fr w w' S → w'.cell? ⟨b, o + i, none⟩ = some u := by
  obtain ⟨vs, h2, h3⟩ := h
  obtain ⟨b, o, c, rfl, _, hb, _, hl, hc⟩ := h2.open (by omega)
  have hlt : i < vs.length := by omega
  refine ⟨b, o, c, vs[i], rfl, h3 i _ (List.getElem?_eq_getElem hlt), fun w' hf => ?_⟩
  exact h2.cellA (List.getElem?_eq_getElem hlt) hf
theorem RdR.take {a : Option Addr} {n c m : Nat} (h : RdR w S (.slice a n c) ls) (hk : m ≤ ls.length) : RdR w S (.slice a m c) (ls.take m) := by
  obtain ⟨vs, h2, h3⟩ := h
  have hn : n = ls.length := by obtain ⟨a', c', e⟩ := h2.slice; cases e; rfl
  subst hn
  have hl : (ls.take m).length = m := by simp; omega
  refine ⟨vs.take (m * 1), by rw [hl]; exact h2.take hk, fun i u hu => ?_⟩
  rw [List.getElem?_take] at hu
  split at hu
  · have := h3 i u hu
    rw [List.getD_eq_getElem?_getD, List.getElem?_take, if_pos (by omega), ← List.getD_eq_getElem?_getD]; exact this
  · simp at hu
theorem RdR.nil : RdR w S (.slice none 0 0) [] := ⟨[], RdV.nil, by simp⟩
/-- One's own row of rows. -/
def OwnR (w : World) (base e : Nat) (S : List Nat) (v : Value) (ls : List (List Int)) : Prop := ∃ vs : List Value, w.ownsRow base e 1 v ls.length vs ∧ ∀ i u, vs[i]? = some u → RdB w S u (ls.getD i [])
theorem OwnR.rd {base e : Nat} (h : OwnR w base e S v ls) (hS : ∀ k, k ∈ S → k < base) : RdR w S v ls := by
  obtain ⟨vs, h1, h2⟩ := h
  exact ⟨vs, RdV.own S h1 hS, h2⟩
theorem getD_snoc {ls : List (List Int)} {l : List Int} {i : Nat} : (ls ++ [l]).getD i [] = if i < ls.length then ls.getD i [] else if i = ls.length then l else [] := by
  simp only [List.getD_eq_getElem?_getD, List.getElem?_append]
  split
  · rfl
  · split
    · rename_i h; subst h; simp
    · rw [List.getElem?_eq_none (by simp; omega)]; rfl
end
theorem own_emptyT {w : World} {base b e sz : Nat} (hb : w.heap[b]? = some (.cells #[] e (0, 0))) (hbase : base ≤ b) : w.ownsRow base e sz (.slice (some ⟨b, 0, none⟩) 0 0) 0 [] :=
  ⟨by simp, .inr ⟨b, 0, #[], rfl, hbase, hb, Nat.le_refl _, by unfold maxLen; omega, by simp, by simp⟩⟩
theorem ownBlock_max {w : World} {base e sz n : Nat} {v : Value} {xs : List Value} (h : w.ownsRow base e sz v n xs) : ∀ k, k ∈ v.ownBlock.toList → k < w.heap.size := by
  obtain ⟨h1, h2⟩ := h
  rcases h2 with ⟨rfl, h0⟩ | ⟨g, cap, cur, rfl, hg, hh, hc, hm, hs, ht⟩
  · simp [Value.ownBlock]
  · have := lt_of_block hh
    simp [Value.ownBlock]; omega
theorem ownBlock_ty {w : World} {base e sz n : Nat} {v : Value} {xs : List Value} (h : w.ownsRow base e sz v n xs) : ∀ k, k ∈ v.ownBlock.toList → ∃ cur, w.heap[k]? = some (.cells cur e (0, 0)) := by
  obtain ⟨h1, h2⟩ := h
  rcases h2 with ⟨rfl, h0⟩ | ⟨g, cap, cur, rfl, hg, hh, hc, hm, hs, ht⟩
  · simp [Value.ownBlock]
  · intro k hk
    simp [Value.ownBlock] at hk
    subst hk; exact ⟨cur, hh⟩
/-- What changes is older, or holds another type. -/
theorem own_kept_ty {w w' : World} {base n : Nat} {t : TypeId} {z : Nat} {v : Value} {l : List Value} {S : List Nat} (h : w.ownsRow base t z v n l) (hf : Fr w w' S) (hS : ∀ k, k ∈ S → k < base ∨ ∃ cur e f, w.heap[k]? = some (.cells cur e f) ∧ e ≠ t) : w'.ownsRow base t z v n l := by
  obtain ⟨h1, h2⟩ := h
  refine ⟨h1, h2.imp (fun e => e) ?_⟩
  rintro ⟨b, cap, cur, hv, hg, hh, r⟩
  refine ⟨b, cap, cur, hv, hg, hf.blk hh (fun hm => ?_), r⟩
  rcases hS b hm with h3 | ⟨cur', e, f, h3, h4⟩
  · omega
  · rw [hh] at h3; simp at h3; exact h4 h3.2.1.symm
/-- Rows of bytes of one's own. -/
def EL (w : World) (base : Nat) (vs : List Value) (ls : List (List Int)) : Prop := vs.length = ls.length ∧ ∀ i u, vs[i]? = some u → w.ownsRow base 5 1 u (ls.getD i []).length (bytesV (ls.getD i []))
theorem EL.nil (w : World) (base : Nat) : EL w base [] [] := ⟨rfl, by simp⟩
theorem EL.kept {w w' : World} {base : Nat} {vs : List Value} {ls : List (List Int)} {S : List Nat} (h : EL w base vs ls) (hf : Fr w w' S) (hS : ∀ k, k ∈ S → k < base ∨ ∃ cur e f, w.heap[k]? = some (.cells cur e f) ∧ e ≠ 5) : EL w' base vs ls :=
  ⟨h.1, fun i u hu => own_kept_ty (h.2 i u hu) hf hS⟩
theorem EL.snoc {w : World} {base : Nat} {vs : List Value} {ls : List (List Int)} {v : Value} {l : List Int} (h : EL w base vs ls) (hv : w.ownsRow base 5 1 v l.length (bytesV l)) : EL w base (vs ++ [v]) (ls ++ [l]) := by
  obtain ⟨h1, h2⟩ := h
  refine ⟨by simp [h1], fun i u hu => ?_⟩
  rw [getD_snoc]
  rw [List.getElem?_append] at hu
  split at hu
  · rw [if_pos (by omega)]; exact h2 i u hu
  · have hi : i = ls.length := by
      have := (List.getElem?_eq_some_iff.1 hu).1
      simp at this; omega
    rw [if_neg (by omega), if_pos hi]
    rw [hi, h1] at hu
    simp at hu
    subst hu; exact hv
theorem EL.one {w : World} {base : Nat} {vs : List Value} {ls : List (List Int)} (h : EL w base vs ls) : ∀ u ∈ vs, u.oneCell' = true := by
  intro u hu
  obtain ⟨i, hi, rfl⟩ := List.getElem_of_mem hu
  rcases (h.2 i _ (List.getElem?_eq_getElem hi)).2 with ⟨h3, _⟩ | ⟨g, cap, cur, h3, _⟩
  · rw [h3]; rfl
  · rw [h3]; rfl
theorem EL.rdr {w : World} {base e : Nat} {v : Value} {vs : List Value} {ls : List (List Int)} {S : List Nat} (h : EL w base vs ls) (ho : w.ownsRow base e 1 v ls.length vs) (hS : ∀ k, k ∈ S → k < base) (hb : ∀ i, ∀ x ∈ ls.getD i [], 0 ≤ x ∧ x < 256) : RdR w S v ls :=
  ⟨vs, RdV.own S ho hS, fun i u hu => RdB.own S (h.2 i u hu) hS (hb i)⟩
theorem cutA_0 (a : Option Addr) (c s : Nat) : cutA a 0 c s = a := by
  unfold cutA; split
  · rfl
  · cases a <;> simp [Addr.add]
end Go.Proofs.Ythpdpipcfhodoaa
