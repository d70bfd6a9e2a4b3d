/- Chapter 46: the operations that its laws take. No condition. -/
import Derived.Test.YtlaodoakiijjnaaArg46
namespace Go.Proofs.Ytlaodoakiijjnaa
open Go.RowKit
set_option linter.unusedSimpArgs false
set_option maxHeartbeats 8000000
set_option linter.unusedVariables false

structure OpD where
  k : Int
  fk : Int
  fs : Int
  fv : Value
  fl : List Int
  ver : Int
  iv : Value
  il : List Int
  deriving Inhabited
abbrev OpD.vs (o : OpD) : List Value := [.int .i64 o.k, .int .i64 o.fk, .int .i64 o.fs, o.fv, .int .i64 o.ver, o.iv]
structure OpOk (w : World) (o : OpD) : Prop where
  f : RdB w [] o.fv o.fl
  flen : o.fl.length ≤ 140737488351232
  i : RdB w [] o.iv o.il
  ilen : o.il.length ≤ 140737488351232
theorem op_of_arg {w : World} {es : List Value} (h : ArgC w 43 es) : ∃ o : OpD, es = o.vs ∧ OpOk w o := by
  have hs := h.struct Try.underlying43
  have hl : es.length = 6 := hs.1.trans (by kernel_rfl)
  have f0 := h.field Try.underlying43 0 3 0 1 rfl (by kernel_rfl)
  have f1 := h.field Try.underlying43 1 32 1 3 rfl (by kernel_rfl)
  have f2 := h.field Try.underlying43 2 3 4 1 rfl (by kernel_rfl)
  have f3 := h.field Try.underlying43 3 23 5 1 rfl (by kernel_rfl)
  clear h hs
  obtain ⟨e0, e1, e2, e3, e4, e5, rfl⟩ : ∃ e0 e1 e2 e3 e4 e5, es = [e0, e1, e2, e3, e4, e5] := by
    match es, hl with
    | [e0, e1, e2, e3, e4, e5], _ => exact ⟨e0, e1, e2, e3, e4, e5, rfl⟩
  simp only [List.drop_zero, List.drop_succ_cons, List.take_succ_cons, List.take_zero] at f0 f1 f2 f3
  have g0 := f1.field Try.underlying32 0 3 0 1 rfl (by kernel_rfl)
  have g1 := f1.field Try.underlying32 1 3 1 1 rfl (by kernel_rfl)
  have g2 := f1.field Try.underlying32 2 23 2 1 rfl (by kernel_rfl)
  simp only [List.drop_zero, List.drop_succ_cons, List.take_succ_cons, List.take_zero] at g0 g1 g2
  obtain ⟨n0, h0, w0⟩ := f0.int Try.underlying3
  obtain ⟨n1, h1, w1⟩ := g0.int Try.underlying3
  obtain ⟨n2, h2, w2⟩ := g1.int Try.underlying3
  obtain ⟨n4, h4, w4⟩ := f2.int Try.underlying3
  obtain ⟨b, len, cap, lb, h6, h7, h8, h9⟩ := g2.bytes Try.underlying23 Try.underlying5 (by kernel_rfl) (by kernel_rfl)
  obtain ⟨b', len', cap', lb', h6', h7', h8', h9'⟩ := f3.bytes Try.underlying23 Try.underlying5 (by kernel_rfl) (by kernel_rfl)
  simp only [List.cons.injEq, and_true] at h0 h1 h2 h4 h6 h6'
  subst h0 h1 h2 h4 h6 h6'
  exact ⟨⟨n0, n1, n2, _, lb, n4, _, lb'⟩, rfl, h8, by simp only; omega, h8', by simp only; omega⟩
theorem OpOk.k' {w w' : World} {o : OpD} (h : OpOk w o) (hf : Fr w w' [] := by (focus ((repeat (first | assumption | exact Fr.refl _ _ | refine Fr.back (by assumption) (by first | exact fun k hk => .inl hk | (intro k hk; simp only [List.mem_cons, List.not_mem_nil, or_false] at hk ⊢ <;> first | omega | (simp [Value.ownBlock] at hk ⊢; omega) | (simp [fp, Mtr.blocks, *]; fail_if_success (focus skip)) | (simp [fp, Mtr.blocks, *]; omega)) | (refine subP (by assumption) ?_ ?_ <;> first | omega | (simp; fail_if_success (focus skip)) | exact fun k hk => .inl hk | (intro k hk; simp at hk ⊢; omega)) | (focus (repeat' (first | exact fun k hk => .inl hk | exact fun k hk => .inl (List.mem_cons_of_mem _ hk) | exact fun k hk => .inl (List.mem_cons_of_mem _ (List.mem_cons_of_mem _ hk)) | (with_reducible refine subC ?_ ?_) | (right; omega) | (left; simp; fail_if_success (focus skip)) | (left; simp [fp]; fail_if_success (focus skip)))); fail_if_success (focus skip))) ?_)); fail_if_success (focus skip)))) : OpOk w' o := ⟨h.f.k, h.flen, h.i.k, h.ilen⟩
def OpsAt (w : World) (a : Option Addr) (len : Nat) (f : Nat → OpD) : Prop := len = 0 ∨ ∃ b o, a = some ⟨b, o, none⟩ ∧ b < w.heap.size ∧ ∀ i, i < len → OpOk w (f i) ∧ ∀ (j : Nat) v, (f i).vs[j]? = some v → w.cell? ⟨b, o + (i * 6 + j), none⟩ = some v
theorem OpsAt.k {w w' : World} {a : Option Addr} {len : Nat} {f : Nat → OpD} (h : OpsAt w a len f) (hf : Fr w w' [] := by (focus ((repeat (first | assumption | exact Fr.refl _ _ | refine Fr.back (by assumption) (by first | exact fun k hk => .inl hk | (intro k hk; simp only [List.mem_cons, List.not_mem_nil, or_false] at hk ⊢ <;> first | omega | (simp [Value.ownBlock] at hk ⊢; omega) | (simp [fp, Mtr.blocks, *]; fail_if_success (focus skip)) | (simp [fp, Mtr.blocks, *]; omega)) | (refine subP (by assumption) ?_ ?_ <;> first | omega | (simp; fail_if_success (focus skip)) | exact fun k hk => .inl hk | (intro k hk; simp at hk ⊢; omega)) | (focus (repeat' (first | exact fun k hk => .inl hk | exact fun k hk => .inl (List.mem_cons_of_mem _ hk) | exact fun k hk => .inl (List.mem_cons_of_mem _ (List.mem_cons_of_mem _ hk)) | (with_reducible refine subC ?_ ?_) | (right; omega) | (left; simp; fail_if_success (focus skip)) | (left; simp [fp]; fail_if_success (focus skip)))); fail_if_success (focus skip))) ?_)); fail_if_success (focus skip)))) : OpsAt w' a len f := by
  rcases h with h | ⟨b, o, h1, h2, h3⟩
  · exact .inl h
  · exact .inr ⟨b, o, h1, Nat.lt_of_lt_of_le h2 hf.size, fun i hi => ⟨(h3 i hi).1.k', fun j v hj => (cell_fr hf h2 (by simp)).trans ((h3 i hi).2 j v hj)⟩⟩
theorem ops_of_arg {w : World} {v : Value} (h : Arg w 40 v) : ∃ a len cap f, v.cells.toList = [.slice a len cap] ∧ OpsAt w a len f ∧ len ≤ 3000000000000 := by
  obtain ⟨a, len, cap, h1, _, _, h2, h3⟩ := h.c.slice Try.underlying40 (sz := 6) (by kernel_rfl) (by omega) (by_ := 80) (by kernel_rfl)
  rcases h3 with h3 | ⟨b, o, h4, h5, h6⟩
  · exact ⟨a, len, cap, fun _ => default, h1, .inl h3, by omega⟩
  · obtain ⟨f, hf⟩ := skolem_lt (α := OpD) (P := fun i d => OpOk w d ∧ ∀ (j : Nat) v, d.vs[j]? = some v → w.cell? ⟨b, o + (i * 6 + j), none⟩ = some v) (len := len) fun i hi => by
      obtain ⟨es, _, he, hc⟩ := h6 i hi
      obtain ⟨d, rfl, hk⟩ := op_of_arg he
      exact ⟨d, hk, hc⟩
    exact ⟨a, len, cap, f, h1, .inr ⟨b, o, h4, h5, hf⟩, by omega⟩
theorem few46_calls {a : Option Addr} {len cap : Nat} {f : Nat → OpD} (w : World) (h : OpsAt w a len f) (hl : len ≤ 3000000000000) :
    Calls Try.prog 18 #[.slice a len cap] w fun e w' => ∃ r, e = .returned (.bool r) ∧ (r = true → len ≤ 40 ∧ ∀ i, i < len → (f i).fl.length ≤ 60 ∧ (f i).il.length ≤ 300) ∧ Fr w w' [] := by
  refine calls_Wp (args := [_]) Try.func18 rfl Try.ntmps18 (by simp) ?_
  repeat' (first | ((with_reducible show Wo _ _ _ _ _ _ _ _); first | (refine WoA.step ?_) | ((with_reducible apply Wo.nil)) | ((with_reducible apply Wo.step0)) | (refine WoA.list ?_) | (refine WoA.yesT ?_) | (refine WoA.yesF ?_) | (refine WoA.noT ?_) | (refine WoA.noF ?_) | (refine WoA.noU ?_) | (refine WoA.yesTo ?_) | (refine WoA.yesFo ?_) | (refine WoA.noTo ?_) | (refine WoA.noFo ?_) | ((with_reducible apply Wo.part); (exact rfl); (exact rfl); (exact rfl); all_goals (intro hb; (have hb0 := hb; try simp only [decide_eq_true_eq, decide_eq_false_iff_not, Bool.not_eq_true', Bool.not_eq_false', Int.not_lt, Int.not_le, ne_eq, Decidable.not_not] at hb0); (try (exfalso; first | contradiction | omega))))) | ((with_reducible show Ox _ _ _ _ _); first | ((with_reducible show Ox _ ⟨some 4, _, _, _, _, _⟩ _ _ _); (refine OxA.allocB ?_; intro b4 w4 hb4 hF4 hg4 hs4)) | (refine OxA.move ?_) | (refine OxA.fieldAddr0 ?_) | (refine OxA.fieldAddrN ?_) | (refine OxA.fieldAddr ?_) | (refine OxA.load ?_) | (refine OxA.assign ?_) | (refine OxA.pickT ?_) | (refine OxA.pickF ?_) | (refine OxA.pickTo ?_) | (refine OxA.pickFo ?_) | (refine OxA.add' ?_) | (refine OxA.add ?_) | (refine OxA.lss ?_) | (refine OxA.leq ?_) | (refine OxA.gtr ?_) | (refine OxA.loadAggB ?_) | (refine OxA.storeAggB ?_; intro w1 hb1 hF1 hs1) | (refine OxA.len ?_) | (refine OxA.storeB ?_; intro w1 hb1 hF1 hs1) | (refine OxA.indexAddr1 ?_) | ((with_reducible apply Ox.indexAddrN); (exact rfl); (exact rfl); (omega); (omega); (first | (conv => lhs; simp only [Nat.zero_add, Int.toNat_natCast]) | exact rfl)) | (refine OxA.indexAddr ?_) | (refine OxA.lenS ?_)) | ((with_reducible show Wp _ _ _ _ _ _ _); first | ((with_reducible apply Wp.seq)) | ((with_reducible apply Wp.region)) | ((with_reducible apply Wp.skip)) | ((with_reducible apply Wp.ret)) | (refine WpA.condT ?_) | (refine WpA.condF ?_) | (refine WpA.condTo ?_) | (refine WpA.condFo ?_) | ((with_reducible apply Wp.cond); (exact rfl); all_goals (intro hb; (have hb0 := hb; try simp only [decide_eq_true_eq, decide_eq_false_iff_not, Bool.not_eq_true', Bool.not_eq_false', Int.not_lt, Int.not_le, ne_eq, Decidable.not_not] at hb0); (try (exfalso; first | contradiction | omega)))) | ((with_reducible apply Wp.block)) | ((with_reducible apply Wp.exit)) | ((with_reducible apply Wp.label))) | ((with_reducible apply thenQ_n)) | ((with_reducible apply thenQ_r)) | ((with_reducible apply thenQ_e)) | ((with_reducible apply RetQ.one); (exact rfl); (conv => lhs; whnf)) | ((with_reducible apply blockQ_n)) | ((with_reducible apply blockQ_r)) | ((with_reducible apply blockQ_here); (exact rfl)) | ((with_reducible apply blockQ_on); (decide)))
  refine Wp.loop (fun m ρ w1 => ∃ (k : Nat), m = len - k ∧ k ≤ len ∧ ρ 0 = .slice a len cap ∧ ρ 5 = .slice a len cap ∧ ρ 6 = .int .i64 len ∧ ρ 7 = .int .i64 k ∧ (∀ i, i < k → (f i).fl.length ≤ 60 ∧ (f i).il.length ≤ 300) ∧ Fr w w1 []) len ⟨0, rfl, Nat.zero_le _, rfl, rfl, rfl, rfl, fun i hi => absurd hi (Nat.not_lt_zero i), FrA⟩ ?_
  rintro m ρ w1 ⟨k, rfl, hk, s0, s5, s6, s7, hN, hF⟩
  have hz := hF.size
  refine Wp.keep (t := 0) s0 (Wp.keep (t := 5) s5 (Wp.keep (t := 6) s6 (Wp.keep (t := 7) s7 (?_))))
  by_cases hlt : k < len
  · obtain ⟨b, o, rfl, hb, hop⟩ := h.resolve_left (by omega)
    obtain ⟨hok, hcell⟩ := hop k hlt
    obtain ⟨fa, fc', hfv⟩ := hok.f.toV.slice
    obtain ⟨ia, ic', hiv⟩ := hok.i.toV.slice
    have hflen := hok.flen
    have hilen := hok.ilen
    unfold OpD.vs at hcell
    rw [hfv, hiv] at hcell
    repeat' (first | ((with_reducible show Wo _ _ _ _ _ _ _ _); first | (refine WoA.step ?_) | ((with_reducible apply Wo.nil)) | ((with_reducible apply Wo.step0)) | (refine WoA.list ?_) | (refine WoA.yesT ?_) | (refine WoA.yesF ?_) | (refine WoA.noT ?_) | (refine WoA.noF ?_) | (refine WoA.noU ?_) | (refine WoA.yesTo ?_) | (refine WoA.yesFo ?_) | (refine WoA.noTo ?_) | (refine WoA.noFo ?_) | ((with_reducible apply Wo.part); (exact rfl); (exact rfl); (exact rfl); all_goals (intro hb; (have hb0 := hb; try simp only [decide_eq_true_eq, decide_eq_false_iff_not, Bool.not_eq_true', Bool.not_eq_false', Int.not_lt, Int.not_le, ne_eq, Decidable.not_not] at hb0); (try (exfalso; first | contradiction | omega))))) | ((with_reducible show Ox _ _ _ _ _); first | ((with_reducible apply Ox.loadAgg (cs := [.int .i64 (f k).k, .int .i64 (f k).fk, .int .i64 (f k).fs, .slice fa (f k).fl.length fc', .int .i64 (f k).ver, .slice ia (f k).il.length ic'])); (exact rfl); (exact rfl); (intro j v hj; rw [Nat.add_assoc]; exact (cell_fr (S := []) FrA hb (by simp)).trans (hcell j v hj))) | ((with_reducible show Ox _ ⟨some 4, _, _, _, _, _⟩ _ _ _); (refine OxA.allocB ?_; intro b4 w4 hb4 hF4 hg4 hs4)) | (refine OxA.move ?_) | (refine OxA.fieldAddr0 ?_) | (refine OxA.fieldAddrN ?_) | (refine OxA.fieldAddr ?_) | (refine OxA.load ?_) | (refine OxA.assign ?_) | (refine OxA.pickT ?_) | (refine OxA.pickF ?_) | (refine OxA.pickTo ?_) | (refine OxA.pickFo ?_) | (refine OxA.add' ?_) | (refine OxA.add ?_) | (refine OxA.lss ?_) | (refine OxA.leq ?_) | (refine OxA.gtr ?_) | (refine OxA.loadAggB ?_) | (refine OxA.storeAggB ?_; intro w1 hb1 hF1 hs1) | (refine OxA.len ?_) | (refine OxA.storeB ?_; intro w1 hb1 hF1 hs1) | (refine OxA.indexAddr1 ?_) | ((with_reducible apply Ox.indexAddrN); (exact rfl); (exact rfl); (omega); (omega); (first | (conv => lhs; simp only [Nat.zero_add, Int.toNat_natCast]) | exact rfl)) | (refine OxA.indexAddr ?_) | (refine OxA.lenS ?_)) | ((with_reducible show Wp _ _ _ _ _ _ _); first | ((with_reducible apply Wp.seq)) | ((with_reducible apply Wp.region)) | ((with_reducible apply Wp.skip)) | ((with_reducible apply Wp.ret)) | (refine WpA.condT ?_) | (refine WpA.condF ?_) | (refine WpA.condTo ?_) | (refine WpA.condFo ?_) | ((with_reducible apply Wp.cond); (exact rfl); all_goals (intro hb; (have hb0 := hb; try simp only [decide_eq_true_eq, decide_eq_false_iff_not, Bool.not_eq_true', Bool.not_eq_false', Int.not_lt, Int.not_le, ne_eq, Decidable.not_not] at hb0); (try (exfalso; first | contradiction | omega)))) | ((with_reducible apply Wp.block)) | ((with_reducible apply Wp.exit)) | ((with_reducible apply Wp.label))) | ((with_reducible apply thenQ_n)) | ((with_reducible apply thenQ_r)) | ((with_reducible apply thenQ_e)) | ((with_reducible apply RetQ.one); (exact rfl); (conv => lhs; whnf)) | ((with_reducible apply blockQ_n)) | ((with_reducible apply blockQ_r)) | ((with_reducible apply blockQ_here); (exact rfl)) | ((with_reducible apply blockQ_on); (decide)))
    all_goals first
      | exact ⟨false, rfl, by simp, FrA⟩
      | (refine ⟨len - (k + 1), by omega, k + 1, rfl, by omega, rfl, rfl, rfl, rfl, fun i hi => ?_, FrA⟩
         by_cases e : i = k
         · subst e; omega
         · exact hN i (by omega))
  · obtain rfl : k = len := by omega
    repeat' (first | ((with_reducible show Wo _ _ _ _ _ _ _ _); first | (refine WoA.step ?_) | ((with_reducible apply Wo.nil)) | ((with_reducible apply Wo.step0)) | (refine WoA.list ?_) | (refine WoA.yesT ?_) | (refine WoA.yesF ?_) | (refine WoA.noT ?_) | (refine WoA.noF ?_) | (refine WoA.noU ?_) | (refine WoA.yesTo ?_) | (refine WoA.yesFo ?_) | (refine WoA.noTo ?_) | (refine WoA.noFo ?_) | ((with_reducible apply Wo.part); (exact rfl); (exact rfl); (exact rfl); all_goals (intro hb; (have hb0 := hb; try simp only [decide_eq_true_eq, decide_eq_false_iff_not, Bool.not_eq_true', Bool.not_eq_false', Int.not_lt, Int.not_le, ne_eq, Decidable.not_not] at hb0); (try (exfalso; first | contradiction | omega))))) | ((with_reducible show Ox _ _ _ _ _); first | ((with_reducible show Ox _ ⟨some 4, _, _, _, _, _⟩ _ _ _); (refine OxA.allocB ?_; intro b4 w4 hb4 hF4 hg4 hs4)) | (refine OxA.move ?_) | (refine OxA.fieldAddr0 ?_) | (refine OxA.fieldAddrN ?_) | (refine OxA.fieldAddr ?_) | (refine OxA.load ?_) | (refine OxA.assign ?_) | (refine OxA.pickT ?_) | (refine OxA.pickF ?_) | (refine OxA.pickTo ?_) | (refine OxA.pickFo ?_) | (refine OxA.add' ?_) | (refine OxA.add ?_) | (refine OxA.lss ?_) | (refine OxA.leq ?_) | (refine OxA.gtr ?_) | (refine OxA.loadAggB ?_) | (refine OxA.storeAggB ?_; intro w1 hb1 hF1 hs1) | (refine OxA.len ?_) | (refine OxA.storeB ?_; intro w1 hb1 hF1 hs1) | (refine OxA.indexAddr1 ?_) | ((with_reducible apply Ox.indexAddrN); (exact rfl); (exact rfl); (omega); (omega); (first | (conv => lhs; simp only [Nat.zero_add, Int.toNat_natCast]) | exact rfl)) | (refine OxA.indexAddr ?_) | (refine OxA.lenS ?_)) | ((with_reducible show Wp _ _ _ _ _ _ _); first | ((with_reducible apply Wp.seq)) | ((with_reducible apply Wp.region)) | ((with_reducible apply Wp.skip)) | ((with_reducible apply Wp.ret)) | (refine WpA.condT ?_) | (refine WpA.condF ?_) | (refine WpA.condTo ?_) | (refine WpA.condFo ?_) | ((with_reducible apply Wp.cond); (exact rfl); all_goals (intro hb; (have hb0 := hb; try simp only [decide_eq_true_eq, decide_eq_false_iff_not, Bool.not_eq_true', Bool.not_eq_false', Int.not_lt, Int.not_le, ne_eq, Decidable.not_not] at hb0); (try (exfalso; first | contradiction | omega)))) | ((with_reducible apply Wp.block)) | ((with_reducible apply Wp.exit)) | ((with_reducible apply Wp.label))) | ((with_reducible apply thenQ_n)) | ((with_reducible apply thenQ_r)) | ((with_reducible apply thenQ_e)) | ((with_reducible apply RetQ.one); (exact rfl); (conv => lhs; whnf)) | ((with_reducible apply blockQ_n)) | ((with_reducible apply blockQ_r)) | ((with_reducible apply blockQ_here); (exact rfl)) | ((with_reducible apply blockQ_on); (decide)))
    all_goals exact ⟨_, rfl, fun hh => ⟨by first | omega | (simp only [decide_eq_true_eq] at hh; omega), hN⟩, FrA⟩
end Go.Proofs.Ytlaodoakiijjnaa
