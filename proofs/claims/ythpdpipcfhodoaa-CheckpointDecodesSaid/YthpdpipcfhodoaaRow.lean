/- Slices of any element: the cells they read as; kept, cut, appended. No condition. -/
import Derived.Test.YthpdpipcfhodoaaNvm4
namespace Go.Proofs.Ythpdpipcfhodoaa
open Go.RowKit
set_option linter.unusedSimpArgs false
set_option maxHeartbeats 4000000
set_option linter.unusedVariables false

/-- The slice `v` of `n` elements of `sz` cells reads as the cells `cs`; its block is none of `S`. -/
def RdV (w : World) (S : List Nat) (sz : Nat) (v : Value) (n : Nat) (cs : List Value) : Prop :=
  ∃ a c, v = .slice a n c ∧ n ≤ c ∧ cs.length = n * sz ∧ (cs = [] ∨ ∃ b o, a = some ⟨b, o, none⟩ ∧ b ∉ S ∧ b < w.heap.size ∧ ∀ j u, cs[j]? = some u → w.cell? ⟨b, o + j, none⟩ = some u)

theorem add_at (b o i : Nat) : (⟨b, o, none⟩ : Addr).add i = ⟨b, o + i, none⟩ := by unfold Addr.add; split <;> simp_all

section
variable {w w' : World} {S S' : List Nat} {sz n : Nat} {v : Value} {cs : List Value}

theorem RdV.kk (h : RdV w S sz v n cs) (hf : Fr w w' S) : RdV w' S sz v n cs := by
  obtain ⟨a, c, h1, h2, h0, h3⟩ := h
  refine ⟨a, c, h1, h2, h0, ?_⟩
  rcases h3 with h3 | ⟨b, o, h4, h5, h6, h7⟩
  · exact .inl h3
  · exact .inr ⟨b, o, h4, h5, Nat.lt_of_lt_of_le h6 hf.size, fun j u hj => (cell_fr hf h6 h5).trans (h7 j u hj)⟩
theorem RdV.mono (h : RdV w S sz v n cs) (hs : ∀ k, k ∈ S' → k ∈ S) : RdV w S' sz v n cs := by
  obtain ⟨a, c, h1, h2, h0, h3⟩ := h
  refine ⟨a, c, h1, h2, h0, h3.imp (fun h => h) ?_⟩
  rintro ⟨b, o, h4, h5, h6⟩
  exact ⟨b, o, h4, fun hm => h5 (hs b hm), h6⟩
theorem RdV.k (h : RdV w S sz v n cs) (hf : Fr w w' S := by (focus ((repeat (first | assumption | exact Fr.refl _ _ | refine Fr.back (by assumption) (by first | exact fun k hk => .inl hk | (intro k hk; simp only [List.mem_cons, List.not_mem_nil, or_false] at hk ⊢ <;> first | omega | (simp [Value.ownBlock] at hk ⊢; omega) | (simp [fp, Mtr.blocks, *]; fail_if_success (focus skip)) | (simp [fp, Mtr.blocks, *]; omega)) | (refine subP (by assumption) ?_ ?_ <;> first | omega | (simp; fail_if_success (focus skip)) | exact fun k hk => .inl hk | (intro k hk; simp at hk ⊢; omega)) | (focus (repeat' (first | exact fun k hk => .inl hk | exact fun k hk => .inl (List.mem_cons_of_mem _ hk) | exact fun k hk => .inl (List.mem_cons_of_mem _ (List.mem_cons_of_mem _ hk)) | (with_reducible refine subC ?_ ?_) | (right; omega) | (left; simp; fail_if_success (focus skip)) | (left; simp [fp]; fail_if_success (focus skip)))); fail_if_success (focus skip))) ?_)); fail_if_success (focus skip)))) (hs : ∀ k, k ∈ S' → k ∈ S := by first | exact fun _ h => h | (simp; fail_if_success (focus skip)) | (simp +contextual; fail_if_success (focus skip))) : RdV w' S' sz v n cs := (h.kk hf).mono hs
/-- New blocks are none of its own. -/
theorem RdV.g (T : List Nat) (h : RdV w S sz v n cs) (hT : ∀ k, k ∈ T → w.heap.size ≤ k := by (simp; try omega)) (hf : Fr w w' S := by (focus ((repeat (first | assumption | exact Fr.refl _ _ | refine Fr.back (by assumption) (by first | exact fun k hk => .inl hk | (intro k hk; simp only [List.mem_cons, List.not_mem_nil, or_false] at hk ⊢ <;> first | omega | (simp [Value.ownBlock] at hk ⊢; omega) | (simp [fp, Mtr.blocks, *]; fail_if_success (focus skip)) | (simp [fp, Mtr.blocks, *]; omega)) | (refine subP (by assumption) ?_ ?_ <;> first | omega | (simp; fail_if_success (focus skip)) | exact fun k hk => .inl hk | (intro k hk; simp at hk ⊢; omega)) | (focus (repeat' (first | exact fun k hk => .inl hk | exact fun k hk => .inl (List.mem_cons_of_mem _ hk) | exact fun k hk => .inl (List.mem_cons_of_mem _ (List.mem_cons_of_mem _ hk)) | (with_reducible refine subC ?_ ?_) | (right; omega) | (left; simp; fail_if_success (focus skip)) | (left; simp [fp]; fail_if_success (focus skip)))); fail_if_success (focus skip))) ?_)); fail_if_success (focus skip)))) : RdV w' (T ++ S) sz v n cs := by
  obtain ⟨a, c, h1, h2, h0, h3⟩ := h
  refine ⟨a, c, h1, h2, h0, ?_⟩
  rcases h3 with h3 | ⟨b, o, h4, h5, h6, h7⟩
  · exact .inl h3
  · refine .inr ⟨b, o, h4, fun hm => ?_, Nat.lt_of_lt_of_le h6 hf.size, fun j u hj => (cell_fr hf h6 h5).trans (h7 j u hj)⟩
    rcases List.mem_append.1 hm with hm | hm
    · have := hT b hm; omega
    · exact h5 hm
theorem RdV.rd (h : RdV w S sz v n cs) : Rd w v n cs := by
  obtain ⟨a, c, h1, h2, h0, h3⟩ := h
  refine ⟨a, c, h1, h2, fun j u hj => ?_⟩
  rcases h3 with rfl | ⟨b, o, h4, _, _, h7⟩
  · simp at hj
  · exact ⟨_, h4, by rw [add_at]; exact h7 j u hj⟩
theorem RdV.slice (h : RdV w S sz v n cs) : ∃ a c, v = .slice a n c := by
  obtain ⟨a, c, h, -⟩ := h
  exact ⟨a, c, h⟩
theorem RdV.open (h : RdV w S sz v n cs) (hn : 0 < n * sz) : ∃ b o c, v = .slice (some ⟨b, o, none⟩) n c ∧ n ≤ c ∧ b ∉ S ∧ b < w.heap.size ∧ cs.length = n * sz ∧ ∀ j u, cs[j]? = some u → w.cell? ⟨b, o + j, none⟩ = some u := by
  obtain ⟨a, c, h1, h2, h0, h3⟩ := h
  rcases h3 with rfl | ⟨b, o, rfl, h5, h6, h7⟩
  · simp at h0; omega
  · exact ⟨b, o, c, h1, h2, h5, h6, h0, h7⟩
theorem RdV.cellA {b o m c : Nat} (h : RdV w S sz (.slice (some ⟨b, o, none⟩) m c) n cs) {j : Nat} {u : Value} (hj : cs[j]? = some u) (hf : Fr w w' S := by (focus ((repeat (first | assumption | exact Fr.refl _ _ | refine Fr.back (by assumption) (by first | exact fun k hk => .inl hk | (intro k hk; simp only [List.mem_cons, List.not_mem_nil, or_false] at hk ⊢ <;> first | omega | (simp [Value.ownBlock] at hk ⊢; omega) | (simp [fp, Mtr.blocks, *]; fail_if_success (focus skip)) | (simp [fp, Mtr.blocks, *]; omega)) | (refine subP (by assumption) ?_ ?_ <;> first | omega | (simp; fail_if_success (focus skip)) | exact fun k hk => .inl hk | (intro k hk; simp at hk ⊢; omega)) | (focus (repeat' (first | exact fun k hk => .inl hk | exact fun k hk => .inl (List.mem_cons_of_mem _ hk) | exact fun k hk => .inl (List.mem_cons_of_mem _ (List.mem_cons_of_mem _ hk)) | (with_reducible refine subC ?_ ?_) | (right; omega) | (left; simp; fail_if_success (focus skip)) | (left; simp [fp]; fail_if_success (focus skip)))); fail_if_success (focus skip))) ?_)); fail_if_success (focus skip)))) : w'.cell? ⟨b, o + j, none⟩ = some u := by
  obtain ⟨a, c', h1, h2, h0, h3⟩ := h.kk hf
  rcases h3 with rfl | ⟨b', o', h4, _, _, h7⟩
  · simp at hj
  · cases h1; cases h4; exact h7 j u hj
theorem RdV.own {base e : Nat} (S : List Nat) (h : w.ownsRow base e sz v n cs) (hS : ∀ k, k ∈ S → k < base) : RdV w S sz v n cs := by
  obtain ⟨h1, h2⟩ := h
  rcases h2 with ⟨rfl, h0⟩ | ⟨g, cap, cur, rfl, hg, hh, hc, hm, hs, ht⟩
  · subst h0; exact ⟨none, 0, rfl, Nat.le_refl _, h1, .inl (List.eq_nil_of_length_eq_zero (by simpa using h1))⟩
  · refine ⟨_, cap, rfl, hc, h1, .inr ⟨g, 0, rfl, fun hm => by have := hS g hm; omega, lt_of_block hh, fun j u hj => ?_⟩⟩
    refine cell_of hh ?_
    rw [← ht, List.getElem?_take] at hj
    split at hj
    · simpa using hj
    · simp at hj
theorem RdV.cut {a : Option Addr} {c k m : Nat} (h : RdV w S sz (.slice a n c) n cs) (hk : k + m ≤ n) : RdV w S sz (.slice (cutA a k c sz) m (c - k)) m ((cs.drop (k * sz)).take (m * sz)) := by
  obtain ⟨a', c', h1, h2, h0, h3⟩ := h
  cases h1
  have e1 : (k + m) * sz = k * sz + m * sz := Nat.add_mul _ _ _
  have e2 : (k + m) * sz ≤ n * sz := Nat.mul_le_mul_right _ hk
  have hl : ((cs.drop (k * sz)).take (m * sz)).length = m * sz := by simp; omega
  refine ⟨_, _, rfl, by omega, hl, ?_⟩
  rcases Nat.eq_zero_or_pos (m * sz) with hm | hm
  · exact .inl (by rw [hm]; simp)
  rcases h3 with rfl | ⟨b, o, rfl, h5, h6, h7⟩
  · simp at h0; omega
  · refine .inr ⟨b, o + k * sz, ?_, h5, h6, fun j u hj => ?_⟩
    · unfold cutA
      rcases Nat.eq_zero_or_pos k with rfl | hk0
      · split <;> simp [Addr.add]
      · rw [if_neg (by intro e; have : 0 < m := Nat.pos_of_mul_pos_right hm; omega)]
        simp only [Option.map_some, add_at]
    · rw [Nat.add_assoc]
      refine h7 _ u ?_
      rw [List.getElem?_take] at hj
      split at hj
      · rw [List.getElem?_drop] at hj; exact hj
      · simp at hj
theorem RdV.take {a : Option Addr} {c m : Nat} (h : RdV w S sz (.slice a n c) n cs) (hk : m ≤ n) : RdV w S sz (.slice a m c) m (cs.take (m * sz)) := by
  obtain ⟨a', c', h1, h2, h0, h3⟩ := h
  cases h1
  have e2 : m * sz ≤ n * sz := Nat.mul_le_mul_right _ hk
  refine ⟨_, _, rfl, by omega, by simp; omega, ?_⟩
  rcases h3 with rfl | ⟨b, o, rfl, h5, h6, h7⟩
  · exact .inl (by simp)
  · refine .inr ⟨b, o, rfl, h5, h6, fun j u hj => h7 _ u ?_⟩
    rw [List.getElem?_take] at hj
    split at hj
    · exact hj
    · simp at hj
theorem RdV.new {b : Nat} {c : Array Value} {T : TypeId} {f : Nat × Nat} (hb : w.heap[b]? = some (.cells c T f)) (hl : c.toList = cs) (hc : cs.length = n * sz) (hS : b ∉ S) : RdV w S sz (.slice (some ⟨b, 0, none⟩) n n) n cs :=
  ⟨_, n, rfl, Nat.le_refl _, hc, .inr ⟨b, 0, rfl, hS, lt_of_block hb, fun j u hj => cell_of hb (by subst hl; simpa using hj)⟩⟩
theorem RdV.nil {m : Nat} : RdV w S sz (.slice none 0 m) 0 [] := ⟨none, m, rfl, Nat.zero_le _, by simp, .inl rfl⟩
theorem RdB.toV {l : List Int} (h : RdB w S v l) : RdV w S 1 v l.length (bytesV l) := by
  obtain ⟨a, c, h1, h2, h0, h3⟩ := h
  refine ⟨a, c, h1, h2, by simp, ?_⟩
  rcases h3 with rfl | ⟨b, o, h4, h5, h6, h7⟩
  · exact .inl rfl
  · refine .inr ⟨b, o, h4, h5, h6, fun j u hj => ?_⟩
    have hlt : j < l.length := by have := (List.getElem?_eq_some_iff.1 hj).1; simpa using this
    rw [h7 j hlt]
    rw [List.getElem?_map, List.getElem?_eq_getElem hlt] at hj
    rw [List.getD_eq_getElem?_getD, List.getElem?_eq_getElem hlt]
    simpa using hj
end

/-- Appends what a slice reads as to a row of one's own. -/
theorem Ox.appV {P : Program} {ρ : Env} {w : World} {K : Value → World → Prop} {d : Option Nat} {ty : TypeId} {pos : String} {aft : Array Edge} {g : Option (Nat × Bool)} {s y : Operand} {T e size bytes : Nat} {z : Value} [hT : UT P T (.slice e)] [hE : EI P e z size bytes] {v vy : Value} {base n m : Nat} {xs l : List Value} {S : List Nat}
    (hs : ev ρ s = v) (hzs : z.cells.size = size) (hsz : 0 < size) (hown : w.ownsRow base e size v n xs) (hy : ev ρ y = vy) (hr : RdV w S size vy m l) (h1 : ∀ u ∈ l, u.oneCell' = true) (h63 : n + m ≤ maxLen) (hbytes : (n + m) * bytes ≤ 140737488355328) (hbase : base ≤ w.heap.size)
    (hk : ∀ v' w', w'.ownsRow base e size v' (n + m) (xs ++ l) → Fr w w' v.ownBlock.toList → K v' w') :
    Ox P ⟨d, .call { callee := .builtin .append, args := #[s, y], argTypes := #[T, T] }, ty, pos, aft, g⟩ ρ w K := by
  subst hy
  exact Ox.appendOwn (m := m) hs hzs hsz hown hr.rd hr.choose_spec.choose_spec.2.2.1 h1 h63 hbytes hbase (fun v' w' ho hg _ => hk v' w' ho (Fr.of_grown hg))

theorem own_nil (w : World) (base e sz : Nat) : w.ownsRow base e sz (.slice none 0 0) 0 [] := World.ownsRow_nil _ _ _ _
theorem ownBlock_lt {w : World} {base e sz n : Nat} {v : Value} {xs : List Value} (h : w.ownsRow base e sz v n xs) : ∀ k, k ∈ v.ownBlock.toList → base ≤ k := by
  obtain ⟨h1, h2⟩ := h
  rcases h2 with ⟨rfl, h0⟩ | ⟨g, cap, cur, rfl, hg, hh, hc, hm, hs, ht⟩
  · simp [Value.ownBlock]
  · simp [Value.ownBlock]; omega
theorem own_base {w : World} {base base' e sz n : Nat} {v : Value} {xs : List Value} (h : w.ownsRow base e sz v n xs) (hb : base' ≤ base) : w.ownsRow base' e sz v n xs := by
  obtain ⟨h1, h2⟩ := h
  refine ⟨h1, h2.imp (fun h => h) ?_⟩
  rintro ⟨g, cap, cur, hv, hg, r⟩
  exact ⟨g, cap, cur, hv, by omega, r⟩
/-! ### Rows of elements of one size -/
section
variable {α : Type} {f : α → List Value} {sz : Nat}
theorem flat_len (hf : ∀ x, (f x).length = sz) (xs : List α) : (xs.flatMap f).length = xs.length * sz := by
  induction xs with
  | nil => simp
  | cons x xs ih => simp only [List.flatMap_cons, List.length_append, hf, ih, List.length_cons, Nat.add_mul]; omega
theorem flat_get (hf : ∀ x, (f x).length = sz) : ∀ (xs : List α) (k j : Nat) (x : α), xs[k]? = some x → j < sz → (xs.flatMap f)[k * sz + j]? = (f x)[j]? := by
  intro xs
  induction xs with
  | nil => intro k j x h; simp at h
  | cons y xs ih =>
    intro k j x h hj
    rw [List.flatMap_cons]
    cases k with
    | zero =>
      simp at h; subst h
      rw [List.getElem?_append_left (by rw [hf]; omega)]; congr 1; omega
    | succ k =>
      simp at h
      rw [List.getElem?_append_right (by rw [hf, Nat.add_mul]; omega), hf, ← ih k j x h hj]
      congr 1; rw [Nat.add_mul]; omega
theorem flat_take (hf : ∀ x, (f x).length = sz) : ∀ (xs : List α) (k : Nat), (xs.flatMap f).take (k * sz) = (xs.take k).flatMap f := by
  intro xs
  induction xs with
  | nil => intro k; simp
  | cons y xs ih =>
    intro k
    cases k with
    | zero => simp
    | succ k =>
      rw [List.flatMap_cons, List.take_succ_cons, List.flatMap_cons, Nat.add_mul, List.take_append, hf, ← ih k, List.take_of_length_le (by rw [hf]; omega)]
      congr 2; omega
theorem flat_drop (hf : ∀ x, (f x).length = sz) : ∀ (xs : List α) (k : Nat), (xs.flatMap f).drop (k * sz) = (xs.drop k).flatMap f := by
  intro xs
  induction xs with
  | nil => intro k; simp
  | cons y xs ih =>
    intro k
    cases k with
    | zero => simp
    | succ k =>
      rw [List.flatMap_cons, List.drop_succ_cons, Nat.add_mul, List.drop_append, hf, ← ih k, List.drop_eq_nil_of_le (by rw [hf]; omega), List.nil_append]
      congr 1; omega
end
end Go.Proofs.Ythpdpipcfhodoaa
