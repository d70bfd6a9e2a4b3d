/- Bytes that are read, bytes of one's own. No condition. -/
import Derived.Test.YtlaodoakiijjnaaTab
import Derived.Test.YtlaodoakiijjnaaDrawL
namespace Go.Proofs.Ytlaodoakiijjnaa
open Go.RowKit
set_option linter.unusedSimpArgs false
set_option maxHeartbeats 4000000
set_option linter.unusedVariables false

/-- What a call leaves alone, out of what is known of its steps. -/
theorem FrA {w w' : World} {S : List Nat} (h : Fr w w' S := by (focus ((repeat (first | assumption | exact Fr.refl _ _ | refine Fr.back (by assumption) (by first | exact fun k hk => .inl hk | (intro k hk; simp only [List.mem_cons, List.not_mem_nil, or_false] at hk ⊢ <;> first | omega | (simp [Value.ownBlock] at hk ⊢; omega) | (simp [fp, Mtr.blocks, *]; fail_if_success (focus skip)) | (simp [fp, Mtr.blocks, *]; omega)) | (refine subP (by assumption) ?_ ?_ <;> first | omega | (simp; fail_if_success (focus skip)) | exact fun k hk => .inl hk | (intro k hk; simp at hk ⊢; omega)) | (focus (repeat' (first | exact fun k hk => .inl hk | exact fun k hk => .inl (List.mem_cons_of_mem _ hk) | exact fun k hk => .inl (List.mem_cons_of_mem _ (List.mem_cons_of_mem _ hk)) | (with_reducible refine subC ?_ ?_) | (right; omega) | (left; simp; fail_if_success (focus skip)) | (left; simp [fp]; fail_if_success (focus skip)))); fail_if_success (focus skip))) ?_)); fail_if_success (focus skip)))) : Fr w w' S := h
theorem BlkA {w : World} {k : Nat} {o : Obj} (h : w.heap[k]? = some o := by (focus ((repeat (first | assumption | refine Fr.blk (by assumption) ?_ (by first | assumption | (simp; fail_if_success (focus skip)) | (simp; omega) | (refine notinP (by assumption) ?_ ?_ <;> first | assumption | omega | (simp; fail_if_success (focus skip)) | (simp; omega)) | (focus ((repeat' (first | assumption | omega | exact List.not_mem_nil | (refine notinN (by assumption) ?_) | (refine notinC ?_ ?_))); fail_if_success (focus skip)))))); fail_if_success (focus skip)))) : w.heap[k]? = some o := h

theorem byt_set {l : List Int} {k : Nat} {x : Int} (h : ∀ x ∈ l, 0 ≤ x ∧ x < 256) (hx : 0 ≤ x ∧ x ≤ 255) : ∀ y ∈ l.set k x, 0 ≤ y ∧ y < 256 := by
  intro y hy
  rcases List.mem_or_eq_of_mem_set hy with h1 | h1
  · exact h y h1
  · omega
/-- A slice of bytes that is only read: its block is none of these. -/
def RdB (w : World) (S : List Nat) (v : Value) (l : List Int) : Prop :=
  ∃ a c, v = .slice a l.length c ∧ l.length ≤ c ∧ (∀ x ∈ l, 0 ≤ x ∧ x < 256) ∧ (l = [] ∨ ∃ b o, a = some ⟨b, o, none⟩ ∧ b ∉ S ∧ b < w.heap.size ∧ ∀ j, j < l.length → w.cell? ⟨b, o + j, none⟩ = some (.int .u8 (l.getD j 0)))

theorem cell_fr {w w' : World} {S : List Nat} {b o : Nat} (hf : Fr w w' S) (hb : b < w.heap.size) (hS : b ∉ S) : w'.cell? ⟨b, o, none⟩ = w.cell? ⟨b, o, none⟩ :=
  World.cell?_of_block (w := w) (hf.block b hb hS)

theorem RdB.kept {w w' : World} {S S' : List Nat} {v : Value} {l : List Int} (h : RdB w S v l) (hf : Fr w w' S') (hS : ∀ k, k ∈ S' → k ∈ S) : RdB w' S v l := by
  obtain ⟨a, c, h1, h2, h0, h3⟩ := h
  refine ⟨a, c, h1, h2, h0, ?_⟩
  rcases h3 with h3 | ⟨b, o, h4, h5, h6, h7⟩
  · exact .inl h3
  · exact .inr ⟨b, o, h4, h5, Nat.lt_of_lt_of_le h6 hf.size, fun j hj => (cell_fr hf h6 (fun hm => h5 (hS _ hm))).trans (h7 j hj)⟩

theorem RdB.kk {w w' : World} {S : List Nat} {v : Value} {l : List Int} (h : RdB w S v l) (hf : Fr w w' S) : RdB w' S v l := by
  obtain ⟨a, c, h1, h2, h0, h3⟩ := h
  refine ⟨a, c, h1, h2, h0, ?_⟩
  rcases h3 with h3 | ⟨b, o, h4, h5, h6, h7⟩
  · exact .inl h3
  · exact .inr ⟨b, o, h4, h5, Nat.lt_of_lt_of_le h6 hf.size, fun j hj => (cell_fr hf h6 h5).trans (h7 j hj)⟩
theorem RdB.mono {w : World} {S S' : List Nat} {v : Value} {l : List Int} (h : RdB w S v l) (hs : ∀ k, k ∈ S' → k ∈ S) : RdB w S' v l := by
  obtain ⟨a, c, h1, h2, h0, h3⟩ := h
  refine ⟨a, c, h1, h2, h0, h3.imp (fun h => h) ?_⟩
  rintro ⟨b, o, h4, h5, h6⟩
  exact ⟨b, o, h4, fun hm => h5 (hs b hm), h6⟩
theorem RdB.k {w w' : World} {S S' : List Nat} {v : Value} {l : List Int} (h : RdB w S v l) (hf : Fr w w' S := by (focus ((repeat (first | assumption | exact Fr.refl _ _ | refine Fr.back (by assumption) (by first | exact fun k hk => .inl hk | (intro k hk; simp only [List.mem_cons, List.not_mem_nil, or_false] at hk ⊢ <;> first | omega | (simp [Value.ownBlock] at hk ⊢; omega) | (simp [fp, Mtr.blocks, *]; fail_if_success (focus skip)) | (simp [fp, Mtr.blocks, *]; omega)) | (refine subP (by assumption) ?_ ?_ <;> first | omega | (simp; fail_if_success (focus skip)) | exact fun k hk => .inl hk | (intro k hk; simp at hk ⊢; omega)) | (focus (repeat' (first | exact fun k hk => .inl hk | exact fun k hk => .inl (List.mem_cons_of_mem _ hk) | exact fun k hk => .inl (List.mem_cons_of_mem _ (List.mem_cons_of_mem _ hk)) | (with_reducible refine subC ?_ ?_) | (right; omega) | (left; simp; fail_if_success (focus skip)) | (left; simp [fp]; fail_if_success (focus skip)))); fail_if_success (focus skip))) ?_)); fail_if_success (focus skip)))) (hs : ∀ k, k ∈ S' → k ∈ S := by first | exact fun _ h => h | (simp; fail_if_success (focus skip)) | (simp +contextual; fail_if_success (focus skip))) : RdB w' S' v l := (h.kk hf).mono hs
/-- New blocks are none of its own. -/
theorem RdB.g {w w' : World} {S : List Nat} {v : Value} {l : List Int} (T : List Nat) (h : RdB w S v l) (hT : ∀ k, k ∈ T → w.heap.size ≤ k := by (simp; try omega)) (hf : Fr w w' S := by (focus ((repeat (first | assumption | exact Fr.refl _ _ | refine Fr.back (by assumption) (by first | exact fun k hk => .inl hk | (intro k hk; simp only [List.mem_cons, List.not_mem_nil, or_false] at hk ⊢ <;> first | omega | (simp [Value.ownBlock] at hk ⊢; omega) | (simp [fp, Mtr.blocks, *]; fail_if_success (focus skip)) | (simp [fp, Mtr.blocks, *]; omega)) | (refine subP (by assumption) ?_ ?_ <;> first | omega | (simp; fail_if_success (focus skip)) | exact fun k hk => .inl hk | (intro k hk; simp at hk ⊢; omega)) | (focus (repeat' (first | exact fun k hk => .inl hk | exact fun k hk => .inl (List.mem_cons_of_mem _ hk) | exact fun k hk => .inl (List.mem_cons_of_mem _ (List.mem_cons_of_mem _ hk)) | (with_reducible refine subC ?_ ?_) | (right; omega) | (left; simp; fail_if_success (focus skip)) | (left; simp [fp]; fail_if_success (focus skip)))); fail_if_success (focus skip))) ?_)); fail_if_success (focus skip)))) : RdB w' (T ++ S) v l := by
  obtain ⟨a, c, h1, h2, h0, h3⟩ := h
  refine ⟨a, c, h1, h2, h0, ?_⟩
  rcases h3 with h3 | ⟨b, o, h4, h5, h6, h7⟩
  · exact .inl h3
  · refine .inr ⟨b, o, h4, fun hm => ?_, Nat.lt_of_lt_of_le h6 hf.size, fun j hj => (cell_fr hf h6 h5).trans (h7 j hj)⟩
    rcases List.mem_append.1 hm with hm | hm
    · have := hT b hm; omega
    · exact h5 hm

theorem RdB.cellA {w w' : World} {S : List Nat} {b o n c : Nat} {l : List Int} (h : RdB w S (.slice (some ⟨b, o, none⟩) n c) l) {j : Nat} (hj : j < l.length) (hf : Fr w w' S := by (focus ((repeat (first | assumption | exact Fr.refl _ _ | refine Fr.back (by assumption) (by first | exact fun k hk => .inl hk | (intro k hk; simp only [List.mem_cons, List.not_mem_nil, or_false] at hk ⊢ <;> first | omega | (simp [Value.ownBlock] at hk ⊢; omega) | (simp [fp, Mtr.blocks, *]; fail_if_success (focus skip)) | (simp [fp, Mtr.blocks, *]; omega)) | (refine subP (by assumption) ?_ ?_ <;> first | omega | (simp; fail_if_success (focus skip)) | exact fun k hk => .inl hk | (intro k hk; simp at hk ⊢; omega)) | (focus (repeat' (first | exact fun k hk => .inl hk | exact fun k hk => .inl (List.mem_cons_of_mem _ hk) | exact fun k hk => .inl (List.mem_cons_of_mem _ (List.mem_cons_of_mem _ hk)) | (with_reducible refine subC ?_ ?_) | (right; omega) | (left; simp; fail_if_success (focus skip)) | (left; simp [fp]; fail_if_success (focus skip)))); fail_if_success (focus skip))) ?_)); fail_if_success (focus skip)))) : w'.cell? ⟨b, o + j, none⟩ = some (.int .u8 (l.getD j 0)) := by
  obtain ⟨a, c', h1, h2, h0, h3⟩ := h.kk hf
  rcases h3 with rfl | ⟨b', o', h4, _, _, h7⟩
  · simp at hj
  · cases h1; cases h4; exact h7 j hj

abbrev bytesV (l : List Int) : List Value := l.map (Value.int .u8)

theorem RdB.rd {w : World} {S : List Nat} {v : Value} {l : List Int} (h : RdB w S v l) : Rd w v l.length (bytesV l) := by
  obtain ⟨a, c, h1, h2, h0, h3⟩ := h
  refine ⟨a, c, h1, h2, fun j u hj => ?_⟩
  rw [List.getElem?_map] at hj
  cases hl : l[j]? with
  | none => rw [hl] at hj; simp at hj
  | some x =>
    rw [hl] at hj
    simp at hj
    subst hj
    have hlt : j < l.length := (List.getElem?_eq_some_iff.1 hl).1
    rcases h3 with rfl | ⟨b, o, h4, _, _, h7⟩
    · simp at hlt
    · refine ⟨_, h4, ?_⟩
      have := h7 j hlt
      rw [List.getD_eq_getElem?_getD, hl] at this
      unfold Addr.add
      split
      · rename_i e; subst e; simpa using this
      · exact this

/-- What the call itself has made reads as bytes. -/
theorem RdB.own {w : World} {base n : Nat} {v : Value} {l : List Int} (S : List Nat) (h : w.ownsRow base 5 1 v n (bytesV l)) (hS : ∀ k, k ∈ S → k < base) (hl : ∀ x ∈ l, 0 ≤ x ∧ x < 256) : RdB w S v l := by
  obtain ⟨h1, h2⟩ := h
  have hn : n = l.length := by simpa using h1.symm
  subst hn
  rcases h2 with ⟨rfl, h0⟩ | ⟨g, cap, cur, rfl, hg, hh, hc, hm, hs, ht⟩
  · obtain rfl := List.eq_nil_of_length_eq_zero h0
    exact ⟨none, 0, rfl, by simp, hl, .inl rfl⟩
  · refine ⟨_, cap, rfl, hc, hl, .inr ⟨g, 0, rfl, fun hm => by have := hS g hm; omega, lt_of_block hh, fun j hj => ?_⟩⟩
    refine cell_of hh ?_
    have h3 : (cur.toList.take (l.length * 1))[j]? = some (.int .u8 (l.getD j 0)) := by
      rw [ht, List.getElem?_map, List.getD_eq_getElem?_getD, List.getElem?_eq_getElem hj]; rfl
    rw [List.getElem?_take, if_pos (by omega)] at h3
    simpa using h3

theorem oneCell_bytes (l : List Int) : ∀ u ∈ bytesV l, u.oneCell' = true := by
  intro u hu; simp at hu; obtain ⟨x, _, rfl⟩ := hu; rfl

theorem Fr.of_grown {w w' : World} {o : Option Nat} (h : w.grownBy w' o) : Fr w w' o.toList :=
  ⟨h.os, h.tape, h.output, h.size, fun k hk hn => h.block k hk (fun e => hn (by simp [← e]))⟩

theorem Ox.appB {ρ : Env} {w : World} {K : Value → World → Prop} {d : Option Nat} {ty : TypeId} {pos : String} {aft : Array Edge} {g : Option (Nat × Bool)} {s y : Operand} {v vy : Value} {base n : Nat} {xs l : List Int} {S : List Nat}
    (hs : ev ρ s = v) (hown : w.ownsRow base 5 1 v n (bytesV xs)) (hy : ev ρ y = vy) (hr : RdB w S vy l) (hsz : n + l.length ≤ 100000000) (hbase : base ≤ w.heap.size)
    (hk : ∀ v' w', w'.ownsRow base 5 1 v' (n + l.length) (bytesV (xs ++ l)) → Fr w w' v.ownBlock.toList → K v' w') :
    Ox Try.prog ⟨d, .call { callee := .builtin .append, args := #[s, y], argTypes := #[23, 23] }, ty, pos, aft, g⟩ ρ w K := by
  subst hy
  refine Ox.appendOwn (m := l.length) hs (by rfl) (by decide) hown hr.rd (by simp) (oneCell_bytes l) (by unfold maxLen; omega) (by omega) hbase (fun v' w' ho hg _ => hk v' w' ?_ (Fr.of_grown hg))
  rw [show bytesV (xs ++ l) = bytesV xs ++ bytesV l by simp]
  exact ho
theorem own_empty {w : World} {base b : Nat} (hb : w.heap[b]? = some (.cells #[] 5 (0, 0))) (hbase : base ≤ b) : w.ownsRow base 5 1 (.slice (some ⟨b, 0, none⟩) 0 0) 0 (bytesV []) :=
  ⟨by simp, .inr ⟨b, 0, #[], rfl, hbase, hb, Nat.le_refl _, by unfold maxLen; omega, rfl, rfl⟩⟩

/-- What a copy is: bytes in a block of its own. -/
def Fresh (w w' : World) (v : Value) (l : List Int) : Prop := w'.ownsRow w.heap.size 5 1 v l.length (bytesV l) ∧ Fr w w' []

theorem clone_calls {S : List Nat} {v : Value} {l : List Int} (w : World) (h : RdB w S v l) (hl : l.length ≤ 1000000) :
    Calls Try.prog 39 #[v] w fun e w' => ∃ v', e = .returned v' ∧ Fresh w w' v' l := by
  have hr := h
  obtain ⟨a, c, rfl, h2, h0, h3⟩ := h
  refine calls_Wp (args := [_]) Try.func39 rfl Try.ntmps39 (by simp) ?_
  cases a with
  | none =>
    have hn : l = [] := by rcases h3 with h3 | ⟨b, o, h4, _⟩; exact h3; simp at h4
    subst hn
    repeat' (first | ((with_reducible show Wo _ _ _ _ _ _ _ _); first | (refine WoA.step ?_) | ((with_reducible apply Wo.nil)) | ((with_reducible apply Wo.step0)) | (refine WoA.list ?_)) | ((with_reducible show Ox _ _ _ _ _); first | (refine OxA.move ?_) | (refine OxA.assign ?_) | (refine OxA.eql ?_) | (refine OxA.eqlBV ?_) | (refine OxA.eqlB ?_) | ((with_reducible apply Ox.bs0); intro b1 w1 hb1 hF1 hg1 hs1) | (refine OxA.bs1 ?_; intro b1 w1 hb1 hF1 hg1 hs1) | (refine OxA.bs2 ?_; intro b1 w1 hb1 hF1 hg1 hs1) | ((with_reducible apply Ox.buildSliceE); (repeat (first | exact EvL.nil | ((with_reducible apply EvL.cons); (conv => lhs; whnf)))); (decide); (conv => lhs; simp [Instr.fill, Value.cells, Function.comp, rg2, rg3, rg4, rg5, rg6, rg7, rg8, rg9, rg10, rg11, rg12, rg13, rg14, rg15, rg16]); (intro b1 w1 hb1 hF1 hg1 hs1)) | (refine OxA.eqlSN ?_) | (refine OxA.eqlSame ?_) | (refine OxA.eqlS ?_)) | ((with_reducible show Wp _ _ _ _ _ _ _); first | ((with_reducible apply Wp.seq)) | ((with_reducible apply Wp.region)) | ((with_reducible apply Wp.skip)) | ((with_reducible apply Wp.ret)) | (refine WpA.condT ?_) | (refine WpA.condF ?_) | (refine WpA.condTo ?_) | (refine WpA.condFo ?_) | ((with_reducible apply Wp.cond); (exact rfl); all_goals (intro hb; (have hb0 := hb; try simp only [decide_eq_true_eq, decide_eq_false_iff_not, Bool.not_eq_true', Bool.not_eq_false', Int.not_lt, Int.not_le, ne_eq, Decidable.not_not] at hb0); (try (exfalso; first | contradiction | omega)))) | ((with_reducible apply Wp.block)) | ((with_reducible apply Wp.exit)) | ((with_reducible apply Wp.label))) | ((with_reducible apply thenQ_n)) | ((with_reducible apply thenQ_r)) | ((with_reducible apply thenQ_e)) | ((with_reducible apply RetQ.one); (exact rfl); (conv => lhs; whnf)) | ((with_reducible apply blockQ_n)) | ((with_reducible apply blockQ_r)) | ((with_reducible apply blockQ_here); (exact rfl)) | ((with_reducible apply blockQ_on); (decide)))
    exact ⟨_, rfl, World.ownsRow_nil _ _ _ _, Fr.refl _ _⟩
  | some ad =>
    repeat' (first | ((with_reducible show Wo _ _ _ _ _ _ _ _); first | (refine WoA.step ?_) | ((with_reducible apply Wo.nil)) | ((with_reducible apply Wo.step0)) | (refine WoA.list ?_)) | ((with_reducible show Ox _ _ _ _ _); first | ((with_reducible apply Ox.appB); (conv => lhs; whnf); (exact own_empty hb1 (Nat.le_of_eq hg1.symm)); (conv => lhs; whnf); (exact hr.kept hF1 (by simp)); (simpa using Nat.le_trans hl (by omega)); (omega); (intro v2 w2 hO hF2)) | (refine OxA.move ?_) | (refine OxA.assign ?_) | (refine OxA.eql ?_) | (refine OxA.eqlBV ?_) | (refine OxA.eqlB ?_) | ((with_reducible apply Ox.bs0); intro b1 w1 hb1 hF1 hg1 hs1) | (refine OxA.bs1 ?_; intro b1 w1 hb1 hF1 hg1 hs1) | (refine OxA.bs2 ?_; intro b1 w1 hb1 hF1 hg1 hs1) | ((with_reducible apply Ox.buildSliceE); (repeat (first | exact EvL.nil | ((with_reducible apply EvL.cons); (conv => lhs; whnf)))); (decide); (conv => lhs; simp [Instr.fill, Value.cells, Function.comp, rg2, rg3, rg4, rg5, rg6, rg7, rg8, rg9, rg10, rg11, rg12, rg13, rg14, rg15, rg16]); (intro b1 w1 hb1 hF1 hg1 hs1)) | (refine OxA.eqlSN ?_) | (refine OxA.eqlSame ?_) | (refine OxA.eqlS ?_)) | ((with_reducible show Wp _ _ _ _ _ _ _); first | ((with_reducible apply Wp.seq)) | ((with_reducible apply Wp.region)) | ((with_reducible apply Wp.skip)) | ((with_reducible apply Wp.ret)) | (refine WpA.condT ?_) | (refine WpA.condF ?_) | (refine WpA.condTo ?_) | (refine WpA.condFo ?_) | ((with_reducible apply Wp.cond); (exact rfl); all_goals (intro hb; (have hb0 := hb; try simp only [decide_eq_true_eq, decide_eq_false_iff_not, Bool.not_eq_true', Bool.not_eq_false', Int.not_lt, Int.not_le, ne_eq, Decidable.not_not] at hb0); (try (exfalso; first | contradiction | omega)))) | ((with_reducible apply Wp.block)) | ((with_reducible apply Wp.exit)) | ((with_reducible apply Wp.label))) | ((with_reducible apply thenQ_n)) | ((with_reducible apply thenQ_r)) | ((with_reducible apply thenQ_e)) | ((with_reducible apply RetQ.one); (exact rfl); (conv => lhs; whnf)) | ((with_reducible apply blockQ_n)) | ((with_reducible apply blockQ_r)) | ((with_reducible apply blockQ_here); (exact rfl)) | ((with_reducible apply blockQ_on); (decide)))
    exact ⟨v2, rfl, by simpa using hO, hF1.step hF2 (by intro k hk; simp [Value.ownBlock] at hk; subst hk; right; omega)⟩

def Same (w : World) (v : Value) (e : Ending) (w' : World) : Prop := e = .returned v ∧ w = w'

/-- A part of a row that is read. -/
theorem RdB.cut {w : World} {S : List Nat} {a : Option Addr} {n c k m : Nat} {l : List Int} (h : RdB w S (.slice a n c) l) (hk : k + m ≤ l.length) :
    RdB w S (.slice (cutA a k c 1) m (c - k)) ((l.drop k).take m) := by
  obtain ⟨a', c', h1, h2, h0, h3⟩ := h
  cases h1
  have hl : ((l.drop k).take m).length = m := by simp; omega
  refine ⟨_, _, by rw [hl], by omega, fun x hx => h0 x (List.mem_of_mem_drop (List.mem_of_mem_take hx)), ?_⟩
  rcases Nat.eq_zero_or_pos m with rfl | hm
  · exact .inl (by simp)
  rcases h3 with rfl | ⟨b, o, rfl, h5, h6, h7⟩
  · exfalso; simp at hk; omega
  · refine .inr ⟨b, o + k, ?_, h5, h6, fun j hj => ?_⟩
    · unfold cutA
      rw [if_neg (by omega)]
      simp [Addr.add]
      try (intro h; simp [h])
    · rw [hl] at hj
      rw [Nat.add_assoc, h7 (k + j) (by omega)]
      congr 2
      simp [List.getD_eq_getElem?_getD, List.getElem?_take, List.getElem?_drop, hj]

theorem own_made {w' : World} {base b : Nat} {n : Nat} (hb : w'.heap[b]? = some (.cells (madeCells (Value.int .u8 0).cells (n * 1)) 5 (0, 0))) (hbase : base ≤ b) (hn : n ≤ 100000000) :
    w'.ownsRow base 5 1 (.slice (some ⟨b, 0, none⟩) n n) n (bytesV (List.replicate n 0)) := by
  refine ⟨by simp, .inr ⟨b, n, _, rfl, hbase, hb, Nat.le_refl _, by unfold maxLen; omega, by simp [size_madeCells], ?_⟩⟩
  have : (madeCells (Value.int .u8 0).cells (n * 1)).toList = List.replicate n (.int .u8 0) := by
    rw [Nat.mul_one]; exact toList_madeCells_one _ _
  rw [this]
  simp

theorem Ox.b2sB {P : Program} {d : Option Nat} {ty : TypeId} {pos : String} {aft : Array Edge} {gd : Option (Nat × Bool)} {ρ : Env} {w : World} {K : Value → World → Prop} {T T' e : Nat} [hT : UT P T (.slice e)] [he : UT P e (.int .u8)] [hd : UT P T' .string] {x : Operand} {v : Value} {S : List Nat} {l : List Int} (hx : ev ρ x = v) (hr : RdB w S v l)
    (h : K (.string (bstr l)) w) : Ox P ⟨d, .convert T T' x, ty, pos, aft, gd⟩ ρ w K := by
  subst hx
  exact Ox.b2s hr.rd rfl h

/-- Bytes that are new since `w`. -/
theorem Fresh.rdb {w w' : World} {v : Value} {l : List Int} (h : Fresh w w' v l) (S : List Nat) (hS : ∀ k, k ∈ S → k < w.heap.size) (hl : ∀ x ∈ l, 0 ≤ x ∧ x < 256) : RdB w' S v l := RdB.own S h.1 hS hl

theorem bits_or_lo_hi (a b : Int) (ha : 0 ≤ a ∧ a < 256) (hb : 0 ≤ b ∧ b < 256) : bits .or .u16 a (b * 256) = a + 256 * b := by
  obtain ⟨n, rfl⟩ := Int.eq_ofNat_of_zero_le ha.1
  obtain ⟨m, rfl⟩ := Int.eq_ofNat_of_zero_le hb.1
  have h1 : (BitVec.ofInt 16 (n : Int)).toNat = n := by
    rw [BitVec.ofInt_natCast, BitVec.toNat_ofNat]; exact Nat.mod_eq_of_lt (by omega)
  have h2 : (BitVec.ofInt 16 ((m : Int) * 256)).toNat = 256 * m := by
    rw [show (m : Int) * 256 = ((256 * m : Nat) : Int) by omega, BitVec.ofInt_natCast, BitVec.toNat_ofNat]; exact Nat.mod_eq_of_lt (by omega)
  have h3 := Nat.two_pow_add_eq_or_of_lt (i := 8) (b := n) (by omega) m
  show IntKind.u16.wrap ((BitVec.ofInt 16 (n : Int) ||| BitVec.ofInt 16 ((m : Int) * 256)).toNat : Int) = _
  rw [BitVec.toNat_or, h1, h2, IntKind.wrap_u16, Nat.or_comm, ← h3]
  omega

/-- The two bytes of a word. -/
def wordL (x : Int) : List Int := [IntKind.u8.wrap x, IntKind.u8.wrap (IntKind.u16.wrap x / 256)]

theorem rdb_two {w1 : World} {S : List Nat} {b : Nat} {x y : Int} (hb : w1.heap[b]? = some (.cells #[.int .u8 x, .int .u8 y] 5 (0, 0))) (hx : 0 ≤ x ∧ x < 256) (hy : 0 ≤ y ∧ y < 256) (hS : b ∉ S) :
    RdB w1 S (.slice (some ⟨b, 0, none⟩) 2 2) [x, y] := by
  refine ⟨_, 2, rfl, Nat.le_refl _, by simp; exact ⟨hx, hy⟩, .inr ⟨b, 0, rfl, hS, (Array.getElem?_eq_some_iff.1 hb).1, ?_⟩⟩
  intro j hj
  simp at hj
  rcases (by omega : j = 0 ∨ j = 1) with rfl | rfl
  · exact cell_of hb rfl
  · exact cell_of hb rfl

theorem RdB.kept2 {w w' : World} {S'' : List Nat} {v : Value} {l : List Int} (h : RdB w [] v l) (hf : Fr w w' []) (hS : ∀ k, k ∈ S'' → w.heap.size ≤ k) : RdB w' S'' v l := by
  obtain ⟨a, c, h1, h2, h3, h4⟩ := h
  refine ⟨a, c, h1, h2, h3, h4.imp (fun e => e) ?_⟩
  rintro ⟨b, o, e, _, hb, hc⟩
  exact ⟨b, o, e, fun hm => by have := hS b hm; omega, Nat.lt_of_lt_of_le hb hf.size, fun j hj => by rw [cell_fr hf hb (by simp)]; exact hc j hj⟩

theorem u8_wf {a : Int} (h : (Lit.int .u8 a).wf = true) : 0 ≤ a ∧ a ≤ 255 := by
  simp only [Lit.wf, Bool.and_eq_true, decide_eq_true_eq] at h
  exact h

theorem rdb_of_row {w : World} {a : Option Addr} {len cap : Nat} {zs : List Int} (h : (a = none ∧ len = 0 ∧ cap = 0 ∧ zs = []) ∨ ∃ x, a = some x ∧ len ≤ cap ∧ cap ≤ maxLen ∧ zs.length = cap ∧ (∀ i, i < zs.length → w.cell? (x.add i) = some (.int .u8 (zs.getD i 0))) ∧ ∀ n ∈ zs, (Lit.int .u8 n).wf = true) :
    (zs.take len).length = len ∧ RdB w [] (.slice a len cap) (zs.take len) := by
  rcases h with ⟨rfl, rfl, rfl, rfl⟩ | ⟨x, rfl, h1, h2, h3, h4, h5⟩
  · exact ⟨rfl, none, 0, rfl, Nat.le_refl _, by simp, .inl rfl⟩
  · have hl : (zs.take len).length = len := by simp; omega
    have hby : ∀ n ∈ zs, 0 ≤ n ∧ n < 256 := fun n hn => by
      have := u8_wf (h5 n hn)
      omega
    refine ⟨hl, some x, cap, by rw [hl], by omega, fun n hn => hby n (List.mem_of_mem_take hn), ?_⟩
    by_cases e : zs.take len = []
    · exact .inl e
    · right
      have hpos : 0 < len := by
        rcases Nat.eq_zero_or_pos len with h0 | h0
        · exact absurd (List.eq_nil_of_length_eq_zero (by omega)) e
        · exact h0
      obtain ⟨b, o, sp⟩ := x
      have hc0 := h4 0 (by omega)
      have hsp : sp = none := by
        cases sp with
        | none => rfl
        | some s =>
          simp only [Addr.add, if_true, World.cell?] at hc0
          split at hc0 <;> simp at hc0
      subst hsp
      have hb : b < w.heap.size := by
        simp only [Addr.add, if_true, World.cell?] at hc0
        split at hc0
        · rename_i hh; exact (Array.getElem?_eq_some_iff.1 hh).1
        · simp at hc0
      refine ⟨b, o, rfl, by simp, hb, fun j hj => ?_⟩
      have := h4 j (by omega)
      rw [show (Addr.add ⟨b, o, none⟩ j) = ⟨b, o + j, none⟩ by unfold Addr.add; split <;> simp_all] at this
      rw [this]
      congr 2
      simp only [List.getD_eq_getElem?_getD]
      rw [List.getElem?_take_of_lt (by omega)]

theorem i16_wf {a : Int} (h : (Lit.int .i16 a).wf = true) : -32768 ≤ a ∧ a ≤ 32767 := by
  simp only [Lit.wf, Bool.and_eq_true, decide_eq_true_eq] at h
  exact h
theorem i64_wf {a : Int} (h : (Lit.int .i64 a).wf = true) : -9223372036854775808 ≤ a ∧ a ≤ 9223372036854775807 := by
  simp only [Lit.wf, Bool.and_eq_true, decide_eq_true_eq] at h
  exact h

theorem Fresh.base {w w1 w2 : World} {v : Value} {l : List Int} (h : Fresh w1 w2 v l) (hf : Fr w w1 []) : Fresh w w2 v l := by
  obtain ⟨⟨h1, h2⟩, h3⟩ := h
  refine ⟨⟨h1, ?_⟩, hf.trans h3⟩
  rcases h2 with h2 | ⟨b, cap, cur, hv, hg, r⟩
  · exact .inl h2
  · exact .inr ⟨b, cap, cur, hv, Nat.le_trans hf.size hg, r⟩

theorem own_kept {w w' : World} {base n : Nat} {t : TypeId} {z : Nat} {v : Value} {l : List Value} {S : List Nat} (h : w.ownsRow base t z v n l) (hf : Fr w w' S) (hS : ∀ k, k ∈ S → k < base) : w'.ownsRow base t z v n l := by
  obtain ⟨h1, h2⟩ := h
  refine ⟨h1, h2.imp (fun e => e) ?_⟩
  rintro ⟨b, cap, cur, hv, hg, hh, r⟩
  exact ⟨b, cap, cur, hv, hg, hf.blk hh (fun hm => by have := hS b hm; omega), r⟩

/-- The list `b` with `l` laid over it from place `k` on. -/
def putL (b : List Int) (k : Nat) (l : List Int) : List Int := b.take k ++ l ++ b.drop (k + l.length)

theorem length_putL {b : List Int} {k : Nat} {l : List Int} (h : k + l.length ≤ b.length) : (putL b k l).length = b.length := by
  simp [putL]; omega

theorem putL_nil (b : List Int) (k : Nat) : putL b k [] = b := by simp [putL]

theorem putL_set {b : List Int} {k : Nat} {x : Int} {l : List Int} (h : k + (l.length + 1) ≤ b.length) : putL (b.set k x) (k + 1) l = putL b k (x :: l) := by
  have hk : k < b.length := by omega
  unfold putL
  rw [List.take_add_one, List.take_set_of_le (Nat.le_refl k), List.drop_set_of_lt (by omega), List.getElem?_set_self hk]
  simp only [List.length_cons, Option.toList, List.append_assoc, List.nil_append, List.cons_append]
  rw [show k + 1 + l.length = k + (l.length + 1) by omega]

theorem drop_putL {b : List Int} {k : Nat} {l : List Int} (h : k + l.length ≤ b.length) : ((putL b k l).drop k).take l.length = l := by
  have hk : (b.take k).length = k := by simp; omega
  unfold putL
  rw [List.append_assoc, List.drop_append_of_le_length (by omega), List.drop_of_length_le (by omega)]
  simp

theorem getD_putL {b : List Int} {k : Nat} {l : List Int} (h : k + l.length ≤ b.length) {j : Nat} (hj : j < l.length) : (putL b k l).getD (k + j) 0 = l.getD j 0 := by
  simp only [putL, List.getD_eq_getElem?_getD, List.getElem?_append, List.length_append, List.length_take]
  rw [if_pos (by omega), if_neg (by omega)]
  congr 2; omega

theorem wordL_sum (v : Int) (hv : -32768 ≤ v ∧ v ≤ 32767) : IntKind.u8.wrap v + 256 * IntKind.u8.wrap (IntKind.u16.wrap v / 256) = IntKind.u16.wrap v := by
  rw [IntKind.wrap_u8, IntKind.wrap_u8, IntKind.wrap_u16]; omega
theorem i16_u16 (v : Int) (hv : -32768 ≤ v ∧ v ≤ 32767) : IntKind.i16.wrap (IntKind.u16.wrap v) = v := by
  simp [IntKind.wrap, IntKind.bits, IntKind.signed]; omega

theorem RdB.zeros {w : World} {S : List Nat} {v : Value} {n : Nat} (h : RdB w S v (List.replicate n 0)) :
    ∃ a c, v = .slice a n c ∧ (n = 0 ∨ ∃ b o, a = some ⟨b, o, none⟩ ∧ ∀ j, j < n → w.cell? ⟨b, o + j, none⟩ = some (.int .u8 0)) := by
  obtain ⟨a, c, h1, h2, h3, h4⟩ := h
  rw [List.length_replicate] at h1
  refine ⟨a, c, h1, ?_⟩
  rcases h4 with h4 | ⟨b, o, h4, _, _, h5⟩
  · left; cases n with
    | zero => rfl
    | succ n => simp [List.replicate_succ] at h4
  · refine .inr ⟨b, o, h4, fun j hj => ?_⟩
    rw [h5 j (by simpa using hj)]
    simp [List.getD_eq_getElem?_getD, List.getElem?_replicate, hj]

theorem RdB.take {w : World} {S : List Nat} {a : Option Addr} {c : Nat} {l : List Int} (h : RdB w S (.slice a l.length c) l) {j : Nat} (hj : j ≤ l.length) : RdB w S (.slice a j c) (l.take j) := by
  obtain ⟨a', c', h1, h2, h3, h4⟩ := h
  cases h1
  refine ⟨a, c, by simp [List.length_take, Nat.min_eq_left hj], by simp; omega, fun x hx => h3 x (List.mem_of_mem_take hx), ?_⟩
  rcases h4 with h4 | ⟨b, o, h4, h5, h6, h7⟩
  · left; simp [h4]
  · refine .inr ⟨b, o, h4, h5, h6, fun i hi => ?_⟩
    rw [List.length_take] at hi
    rw [h7 i (by omega)]
    congr 2
    simp only [List.getD_eq_getElem?_getD]
    rw [List.getElem?_take_of_lt (by omega)]

theorem cutA_zero {b o c size : Nat} (hc : c ≠ 0) : cutA (some ⟨b, o, none⟩) 0 c size = some ⟨b, o, none⟩ := by
  unfold cutA
  rw [if_neg hc]
  simp [Addr.add]

/-- Bytes of one's own, in a row of cells. -/
theorem own_row {w : World} {base n : Nat} {v : Value} {l : List Int} (h : w.ownsRow base 5 1 v n (bytesV l)) (hn : l.length = n) (hne : 0 < n) : ∃ b cap cur, v = .slice (some ⟨b, 0, none⟩) n cap ∧ base ≤ b ∧ w.heap[b]? = some (.cells cur 5 (0, 0)) ∧ 0 < cur.size ∧ cur[0]? = some (.int .u8 (l.getD 0 0)) := by
  obtain ⟨h1, h2⟩ := h
  rcases h2 with ⟨rfl, h0⟩ | ⟨g, cap, cur, rfl, hg, hh, hc, hm, hs, ht⟩
  · omega
  · refine ⟨g, cap, cur, rfl, hg, hh, by omega, ?_⟩
    have h3 : (cur.toList.take (n * 1))[0]? = (bytesV l)[0]? := by rw [ht]
    rw [List.getElem?_take_of_lt (by omega)] at h3
    rw [← Array.getElem?_toList, h3]
    cases l with
    | nil => simp at hn; omega
    | cons x l => rfl

/-- A row of one's own, laid open. -/
theorem own_open {w : World} {base n e sz : Nat} {v : Value} {xs : List Value} (h : w.ownsRow base e sz v n xs) (hne : 0 < n) :
    ∃ b cap cur, v = .slice (some ⟨b, 0, none⟩) n cap ∧ base ≤ b ∧ w.heap[b]? = some (.cells cur e (0, 0)) ∧ n ≤ cap ∧ cap ≤ maxLen ∧ cur.size = cap * sz ∧ cur.toList.take (n * sz) = xs := by
  obtain ⟨h1, h2⟩ := h
  rcases h2 with ⟨rfl, h0⟩ | ⟨g, cap, cur, rfl, hg, hh, hc, hm, hs, ht⟩
  · omega
  · exact ⟨g, cap, cur, rfl, hg, hh, hc, hm, hs, ht⟩
theorem own_close {w : World} {base n e sz b cap : Nat} {xs : List Value} {cur : Array Value} (hb : base ≤ b) (hh : w.heap[b]? = some (.cells cur e (0, 0))) (hc : n ≤ cap) (hm : cap ≤ maxLen) (hs : cur.size = cap * sz) (ht : cur.toList.take (n * sz) = xs) :
    w.ownsRow base e sz (.slice (some ⟨b, 0, none⟩) n cap) n xs :=
  ⟨by rw [← ht, List.length_take]; simp only [Array.length_toList, hs]; exact Nat.min_eq_left (Nat.mul_le_mul_right _ hc), .inr ⟨b, cap, cur, rfl, hb, hh, hc, hm, hs, ht⟩⟩

/-- A byte of one's own row is replaced. -/
theorem own_put {w : World} {base n i b cap : Nat} {l : List Int} {x : Int} {cur : Array Value} (hb : base ≤ b) (hh : w.heap[b]? = some (.cells (cur.setIfInBounds i (.int .u8 x)) 5 (0, 0))) (hc : n ≤ cap) (hm : cap ≤ maxLen) (hs : cur.size = cap * 1) (ht : cur.toList.take (n * 1) = bytesV l) :
    w.ownsRow base 5 1 (.slice (some ⟨b, 0, none⟩) n cap) n (bytesV (l.set i x)) := by
  refine own_close hb hh hc hm (by simpa using hs) ?_
  rw [Array.toList_setIfInBounds, List.take_set, ht]
  simp [bytesV, List.map_set]
theorem Ox.storeRow {P : Program} {d : Option Nat} {ty : TypeId} {pos : String} {aft : Array Edge} {g : Option (Nat × Bool)} {ρ : Env} {w : World} {K : Value → World → Prop} {t b i : Nat} [ho : S1 P t] {x y : Operand} {c : Array Value} {T : TypeId} {v : Value} (hx : ev ρ x = .pointer (some ⟨b, i, none⟩)) (hb : w.heap[b]? = some (.cells c T (0, 0))) (hi : i < c.size)
    (hy : ev ρ y = v) (hv : plainV v = true) (h : ∀ w', w'.heap[b]? = some (.cells (c.setIfInBounds i v) T (0, 0)) → Fr w w' [b] → w'.heap.size = w.heap.size → K undef w') : Ox P ⟨d, .store t x y, ty, pos, aft, g⟩ ρ w K :=
  Ox.storeB hx hb hi hy hv rfl h

theorem RdB.slice {w : World} {S : List Nat} {v : Value} {l : List Int} (h : RdB w S v l) : ∃ a c, v = .slice a l.length c := by
  obtain ⟨a, c, h, -⟩ := h
  exact ⟨a, c, h⟩

end Go.Proofs.Ytlaodoakiijjnaa
