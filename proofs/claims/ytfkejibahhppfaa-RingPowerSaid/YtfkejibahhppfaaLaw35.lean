/- Chapter 35: an operation on the ring and on its reference. No condition. -/
import Derived.Test.YtfkejibahhppfaaRef35b
import Derived.Test.YtfkejibahhppfaaArg
namespace Go.Proofs.Ytfkejibahhppfaa
open Go.RowKit
set_option linter.unusedSimpArgs false
set_option maxHeartbeats 4000000
set_option linter.unusedVariables false

structure OpD where
  k : Int
  vb : Value
  lb : List Int
  x : Int
  deriving Inhabited
abbrev OpD.vs (o : OpD) : List Value := [.int .u8 o.k, o.vb, .int .i64 o.x]
structure OpOk (w : World) (o : OpD) : Prop where
  k : 0 ≤ o.k ∧ o.k ≤ 255
  b : RdB w [] o.vb o.lb
  len : o.lb.length ≤ 140737488351232
  x : -9223372036854775808 ≤ o.x ∧ o.x ≤ 9223372036854775807
theorem op_of_arg {w : World} {es : List Value} (h : ArgC w 75 es) : ∃ o : OpD, es = o.vs ∧ OpOk w o := by
  have hs := h.struct Try.underlying75
  have hl : es.length = 3 := hs.1.trans (by kernel_rfl)
  have c5 : Try.prog.cellsOf 5 = 1 := by kernel_rfl
  have f0 := h.field Try.underlying75 0 5 0 1 rfl c5
  have f1 := h.field Try.underlying75 1 34 1 1 rfl (by kernel_rfl)
  have f2 := h.field Try.underlying75 2 3 2 1 rfl (by kernel_rfl)
  clear h hs
  obtain ⟨e0, e1, e2, rfl⟩ : ∃ e0 e1 e2, es = [e0, e1, e2] := by
    match es, hl with
    | [e0, e1, e2], _ => exact ⟨e0, e1, e2, rfl⟩
  simp only [List.drop_zero, List.drop_succ_cons, List.take_succ_cons, List.take_zero] at f0 f1 f2
  obtain ⟨k, h0, w0⟩ := f0.int Try.underlying5
  obtain ⟨n, h2, w2⟩ := f2.int Try.underlying3
  obtain ⟨b, len, cap, lb, h3, h4, h5, h6⟩ := f1.bytes Try.underlying34 Try.underlying5 c5 (by kernel_rfl)
  simp only [List.cons.injEq, and_true] at h0 h2 h3
  subst h0 h2 h3
  subst h4
  exact ⟨⟨k, _, lb, n⟩, rfl, u8_wf w0, h5, h6, i64_wf w2⟩
/-- A row of operations. -/
def OpsAt (w : World) (a : Option Addr) (len : Nat) (f : Nat → OpD) : Prop := len = 0 ∨ ∃ b o, a = some ⟨b, o, none⟩ ∧ b < w.heap.size ∧ ∀ i, i < len → OpOk w (f i) ∧ ∀ (j : Nat) v, (f i).vs[j]? = some v → w.cell? ⟨b, o + (i * 3 + j), none⟩ = some v
theorem OpOk.k' {w w' : World} {o : OpD} (h : OpOk w o) (hf : Fr w w' [] := by (focus ((repeat (first | assumption | exact Fr.refl _ _ | refine Fr.back (by assumption) (by first | exact fun k hk => .inl hk | (intro k hk; simp only [List.mem_cons, List.not_mem_nil, or_false] at hk ⊢ <;> first | omega | (simp [Value.ownBlock] at hk ⊢; omega) | (simp [fp, Mtr.blocks, *]; fail_if_success (focus skip)) | (simp [fp, Mtr.blocks, *]; omega)) | (refine subP (by assumption) ?_ ?_ <;> first | omega | (simp; fail_if_success (focus skip)) | exact fun k hk => .inl hk | (intro k hk; simp at hk ⊢; omega)) | (focus (repeat' (first | exact fun k hk => .inl hk | exact fun k hk => .inl (List.mem_cons_of_mem _ hk) | exact fun k hk => .inl (List.mem_cons_of_mem _ (List.mem_cons_of_mem _ hk)) | (with_reducible refine subC ?_ ?_) | (right; omega) | (left; simp; fail_if_success (focus skip)) | (left; simp [fp]; fail_if_success (focus skip)))); fail_if_success (focus skip))) ?_)); fail_if_success (focus skip)))) : OpOk w' o := ⟨h.k, h.b.k, h.len, h.x⟩
theorem ops_of_arg {w : World} {v : Value} (h : Arg w 65 v) : ∃ a len cap f, v.cells.toList = [.slice a len cap] ∧ OpsAt w a len f ∧ len ≤ 4000000000000 := by
  obtain ⟨a, len, cap, h1, _, _, h2, h3⟩ := h.c.slice Try.underlying65 (sz := 3) (by kernel_rfl) (by omega) (by_ := 40) (by kernel_rfl)
  rcases h3 with h3 | ⟨b, o, h4, h5, h6⟩
  · exact ⟨a, len, cap, fun _ => default, h1, .inl h3, by omega⟩
  · obtain ⟨f, hf⟩ := skolem_lt (α := OpD) (P := fun i d => OpOk w d ∧ ∀ (j : Nat) v, d.vs[j]? = some v → w.cell? ⟨b, o + (i * 3 + j), none⟩ = some v) (len := len) fun i hi => by
      obtain ⟨es, _, he, hc⟩ := h6 i hi
      obtain ⟨d, rfl, hk⟩ := op_of_arg he
      exact ⟨d, hk, hc⟩
    exact ⟨a, len, cap, f, h1, .inr ⟨b, o, h4, h5, hf⟩, by omega⟩

/-- A case's cells. -/
abbrev casev (v : Value) (addr entry cap rem add : Int) : List Value := [v, .int .i64 addr, .int .i64 entry, .int .i64 cap, .int .i64 rem, .int .i64 add]
structure CaseOk (w : World) (v : Value) (l : List Int) (addr entry cap rem add : Int) : Prop where
  b : RdB w [] v l
  len : l.length ≤ 140737488351232
  addr : -9223372036854775808 ≤ addr ∧ addr ≤ 9223372036854775807
  entry : -9223372036854775808 ≤ entry ∧ entry ≤ 9223372036854775807
  cap : -9223372036854775808 ≤ cap ∧ cap ≤ 9223372036854775807
  rem : -9223372036854775808 ≤ rem ∧ rem ≤ 9223372036854775807
  add : -9223372036854775808 ≤ add ∧ add ≤ 9223372036854775807
theorem CaseOk.k {w w' : World} {v : Value} {l : List Int} {addr entry cap rem add : Int} (h : CaseOk w v l addr entry cap rem add) (hf : Fr w w' [] := by (focus ((repeat (first | assumption | exact Fr.refl _ _ | refine Fr.back (by assumption) (by first | exact fun k hk => .inl hk | (intro k hk; simp only [List.mem_cons, List.not_mem_nil, or_false] at hk ⊢ <;> first | omega | (simp [Value.ownBlock] at hk ⊢; omega) | (simp [fp, Mtr.blocks, *]; fail_if_success (focus skip)) | (simp [fp, Mtr.blocks, *]; omega)) | (refine subP (by assumption) ?_ ?_ <;> first | omega | (simp; fail_if_success (focus skip)) | exact fun k hk => .inl hk | (intro k hk; simp at hk ⊢; omega)) | (focus (repeat' (first | exact fun k hk => .inl hk | exact fun k hk => .inl (List.mem_cons_of_mem _ hk) | exact fun k hk => .inl (List.mem_cons_of_mem _ (List.mem_cons_of_mem _ hk)) | (with_reducible refine subC ?_ ?_) | (right; omega) | (left; simp; fail_if_success (focus skip)) | (left; simp [fp]; fail_if_success (focus skip)))); fail_if_success (focus skip))) ?_)); fail_if_success (focus skip)))) : CaseOk w' v l addr entry cap rem add := ⟨h.b.k, h.len, h.addr, h.entry, h.cap, h.rem, h.add⟩
theorem OpsAt.k {w w' : World} {a : Option Addr} {len : Nat} {f : Nat → OpD} (h : OpsAt w a len f) (hf : Fr w w' [] := by (focus ((repeat (first | assumption | exact Fr.refl _ _ | refine Fr.back (by assumption) (by first | exact fun k hk => .inl hk | (intro k hk; simp only [List.mem_cons, List.not_mem_nil, or_false] at hk ⊢ <;> first | omega | (simp [Value.ownBlock] at hk ⊢; omega) | (simp [fp, Mtr.blocks, *]; fail_if_success (focus skip)) | (simp [fp, Mtr.blocks, *]; omega)) | (refine subP (by assumption) ?_ ?_ <;> first | omega | (simp; fail_if_success (focus skip)) | exact fun k hk => .inl hk | (intro k hk; simp at hk ⊢; omega)) | (focus (repeat' (first | exact fun k hk => .inl hk | exact fun k hk => .inl (List.mem_cons_of_mem _ hk) | exact fun k hk => .inl (List.mem_cons_of_mem _ (List.mem_cons_of_mem _ hk)) | (with_reducible refine subC ?_ ?_) | (right; omega) | (left; simp; fail_if_success (focus skip)) | (left; simp [fp]; fail_if_success (focus skip)))); fail_if_success (focus skip))) ?_)); fail_if_success (focus skip)))) : OpsAt w' a len f := by
  rcases h with h | ⟨b, o, h1, h2, h3⟩
  · exact .inl h
  · exact .inr ⟨b, o, h1, Nat.lt_of_lt_of_le h2 hf.size, fun i hi => ⟨(h3 i hi).1.k', fun j v hj => (cell_fr hf h2 (by simp)).trans ((h3 i hi).2 j v hj)⟩⟩
theorem case_of_arg {w : World} {v : Value} (h : Arg w 64 v) : ∃ b l addr entry cap rem add, v.cells.toList = casev b addr entry cap rem add ∧ CaseOk w b l addr entry cap rem add := by
  have h := h.c
  generalize v.cells.toList = es at h
  have hs := h.struct Try.underlying64
  have hl : es.length = 6 := hs.1.trans (by kernel_rfl)
  have f0 := h.field Try.underlying64 0 34 0 1 rfl (by kernel_rfl)
  have f1 := h.field Try.underlying64 1 3 1 1 rfl (by kernel_rfl)
  have f2 := h.field Try.underlying64 2 3 2 1 rfl (by kernel_rfl)
  have f3 := h.field Try.underlying64 3 3 3 1 rfl (by kernel_rfl)
  have f4 := h.field Try.underlying64 4 2 4 1 rfl (by kernel_rfl)
  have f5 := h.field Try.underlying64 5 2 5 1 rfl (by kernel_rfl)
  clear h hs
  obtain ⟨e0, e1, e2, e3, e4, e5, rfl⟩ : ∃ e0 e1 e2 e3 e4 e5, es = [e0, e1, e2, e3, e4, e5] := by
    match es, hl with
    | [e0, e1, e2, e3, e4, e5], _ => exact ⟨e0, e1, e2, e3, e4, e5, rfl⟩
  simp only [List.drop_zero, List.drop_succ_cons, List.take_succ_cons, List.take_zero] at f0 f1 f2 f3 f4 f5
  obtain ⟨n1, h1, w1⟩ := f1.int Try.underlying3
  obtain ⟨n2, h2, w2⟩ := f2.int Try.underlying3
  obtain ⟨n3, h3, w3⟩ := f3.int Try.underlying3
  obtain ⟨n4, h4, w4⟩ := f4.int Try.underlying2
  obtain ⟨n5, h5, w5⟩ := f5.int Try.underlying2
  obtain ⟨b, len, cap, lb, h6, h7, h8, h9⟩ := f0.bytes Try.underlying34 Try.underlying5 (by kernel_rfl) (by kernel_rfl)
  simp only [List.cons.injEq, and_true] at h1 h2 h3 h4 h5 h6
  subst h1 h2 h3 h4 h5 h6
  subst h7
  exact ⟨_, lb, n1, n2, n3, n4, n5, rfl, h8, h9, i64_wf w1, i64_wf w2, i64_wf w3, i64_wf w4, i64_wf w5⟩

theorem small35_calls {v : Value} {l : List Int} {addr entry cp rem add : Int} {a : Option Addr} {len cap : Nat} {f : Nat → OpD} (w : World) (hc : CaseOk w v l addr entry cp rem add) (h : OpsAt w a len f) (hl : len ≤ 4000000000000) :
    Calls Try.prog 39 #[.agg (casev v addr entry cp rem add).toArray, .slice a len cap] w fun e w' => ∃ r, e = .returned (.bool r) ∧ (r = true → len ≤ 400 ∧ (∀ i, i < len → (f i).lb.length ≤ 400) ∧ 1 ≤ l.length ∧ l.length ≤ 80) ∧ Fr w w' [] := by
  obtain ⟨av, cv, rfl⟩ := hc.b.toV.slice
  have hcl := hc.len
  refine calls_Wp (args := [_, _]) Try.func39 rfl Try.ntmps39 (by simp) ?_
  repeat' (first | ((with_reducible show Wo _ _ _ _ _ _ _); first | (refine WoA.step (h := ?_)) | ((with_reducible apply Wo.nil)) | ((with_reducible apply Wo.step0)) | (refine WoA.list (h := ?_)) | (refine WoA.yesT (h := ?_)) | (refine WoA.yesF (h := ?_)) | (refine WoA.noT (h := ?_)) | (refine WoA.noF (h := ?_)) | (refine WoA.noU (h := ?_)) | (refine WoA.yesTo (h := ?_)) | (refine WoA.yesFo (h := ?_)) | (refine WoA.noTo (h := ?_)) | (refine WoA.noFo (h := ?_)) | ((with_reducible apply Wo.part); (exact rfl); (exact rfl); (exact rfl); all_goals (intro hb; (have hb0 := hb; try simp only [decide_eq_true_eq, decide_eq_false_iff_not, Bool.not_eq_true', Bool.not_eq_false', Int.not_lt, Int.not_le, ne_eq, Decidable.not_not] at hb0); (try (exfalso; first | contradiction | omega))))) | ((with_reducible show Ox _ _ _ _ _); first | ((with_reducible show Ox _ ⟨some 2, _, _, _, _, _⟩ _ _ _); (refine OxA.boxB (h := ?_); intro b2 w2 hb2 hF2 hg2 hs2)) | ((with_reducible show Ox _ ⟨some 7, _, _, _, _, _⟩ _ _ _); (refine OxA.allocB (h := ?_); intro b7 w7 hb7 hF7 hg7 hs7)) | (refine OxA.move (h := ?_)) | (refine OxA.fieldAddr0 (h := ?_)) | (refine OxA.fieldAddrN (h := ?_)) | (refine OxA.fieldAddr (h := ?_)) | (refine OxA.load (h := ?_)) | (refine OxA.assign (h := ?_)) | (refine OxA.pickT (h := ?_)) | (refine OxA.pickF (h := ?_)) | (refine OxA.pickTo (h := ?_)) | (refine OxA.pickFo (h := ?_)) | (refine OxA.add' (h := ?_)) | (refine OxA.add (h := ?_)) | (refine OxA.lss (h := ?_)) | (refine OxA.leq (h := ?_)) | (refine OxA.gtr (h := ?_)) | (refine OxA.geq (h := ?_)) | (refine OxA.loadAggB (h := ?_)) | (refine OxA.storeAggB (h := ?_); intro w1 hb1 hF1 hs1) | (refine OxA.len (h := ?_)) | (refine OxA.storeB (h := ?_); intro w1 hb1 hF1 hs1) | (refine OxA.indexAddr1 (h := ?_)) | ((with_reducible apply Ox.indexAddrN); (exact rfl); (exact rfl); (omega); (omega); (first | (conv => lhs; simp only [Nat.zero_add, Int.toNat_natCast]) | exact rfl)) | (refine OxA.indexAddr (h := ?_)) | (refine OxA.boxB (h := ?_); intro b1 w1 hb1 hF1 hg1 hs1) | (refine OxA.allocB (h := ?_); intro b1 w1 hb1 hF1 hg1 hs1) | (refine OxA.lenS (h := ?_))) | ((with_reducible show Wp _ _ _ _ _ _); first | ((with_reducible apply Wp.seq)) | ((with_reducible apply Wp.region)) | ((with_reducible apply Wp.skip)) | ((with_reducible apply Wp.ret)) | (refine WpA.condT (h := ?_)) | (refine WpA.condF (h := ?_)) | (refine WpA.condTo (h := ?_)) | (refine WpA.condFo (h := ?_)) | ((with_reducible apply Wp.cond); (exact rfl); all_goals (intro hb; (have hb0 := hb; try simp only [decide_eq_true_eq, decide_eq_false_iff_not, Bool.not_eq_true', Bool.not_eq_false', Int.not_lt, Int.not_le, ne_eq, Decidable.not_not] at hb0); (try (exfalso; first | contradiction | omega)))) | ((with_reducible apply Wp.block)) | ((with_reducible apply Wp.exit)) | ((with_reducible apply Wp.label))) | ((with_reducible apply thenQ_n)) | ((with_reducible apply thenQ_r)) | ((with_reducible apply thenQ_e)) | ((with_reducible apply RetQ.one); (exact rfl); (conv => lhs; whnf)) | ((with_reducible apply RetQ.two); (exact rfl); (conv => lhs; whnf); (conv => lhs; whnf)) | ((with_reducible apply RetQ.zero); (exact rfl)) | ((with_reducible apply RetQ.zeroE); (exact rfl)) | ((with_reducible apply RetQ.three); (exact rfl); (conv => lhs; whnf); (conv => lhs; whnf); (conv => lhs; whnf)) | ((with_reducible apply blockQ_n)) | ((with_reducible apply blockQ_r)) | ((with_reducible apply blockQ_here); (exact rfl)) | ((with_reducible apply blockQ_on); (decide)))
  refine Wp.loop (fun m ρ w1 => ∃ (k : Nat) (N : Int), m = len - k ∧ k ≤ len ∧ ρ 2 = .pointer (some ⟨b2, 0, none⟩) ∧ ρ 5 = .int .i64 N ∧ ρ 8 = .slice a len cap ∧ ρ 9 = .int .i64 len ∧ ρ 10 = .int .i64 k ∧ (k : Int) ≤ N ∧ N ≤ 400 ∧ (∀ i, i < k → (f i).lb.length ≤ 400) ∧ w1.heap[b2]? = some (.cells (casev (.slice av l.length cv) addr entry cp rem add).toArray 64 (0, 0)) ∧ Fr w w1 []) len ⟨0, 0, rfl, Nat.zero_le _, rfl, rfl, rfl, rfl, rfl, by omega, by omega, by omega, BlkA, FrA⟩ ?_
  rintro m ρ w1 ⟨k, N, rfl, hk, s2, s5, s8, s9, s10, hN1, hN2, hN3, hb2', hF⟩
  have hz := hF.size
  have hb2l := lt_of_block hb2'
  refine Wp.keep (t := 2) s2 (Wp.keep (t := 5) s5 (Wp.keep (t := 8) s8 (Wp.keep (t := 9) s9 (Wp.keep (t := 10) s10 (?_)))))
  by_cases hlt : k < len
  · obtain ⟨b, o, rfl, hb, hop⟩ := h.resolve_left (by omega)
    obtain ⟨hok, hcell⟩ := hop k hlt
    obtain ⟨vba, vbc, hvb⟩ := hok.b.toV.slice
    have hlb := hok.len
    unfold OpD.vs at hcell
    rw [hvb] at hcell
    repeat' (first | ((with_reducible show Wo _ _ _ _ _ _ _); first | (refine WoA.step (h := ?_)) | ((with_reducible apply Wo.nil)) | ((with_reducible apply Wo.step0)) | (refine WoA.list (h := ?_)) | (refine WoA.yesT (h := ?_)) | (refine WoA.yesF (h := ?_)) | (refine WoA.noT (h := ?_)) | (refine WoA.noF (h := ?_)) | (refine WoA.noU (h := ?_)) | (refine WoA.yesTo (h := ?_)) | (refine WoA.yesFo (h := ?_)) | (refine WoA.noTo (h := ?_)) | (refine WoA.noFo (h := ?_)) | ((with_reducible apply Wo.part); (exact rfl); (exact rfl); (exact rfl); all_goals (intro hb; (have hb0 := hb; try simp only [decide_eq_true_eq, decide_eq_false_iff_not, Bool.not_eq_true', Bool.not_eq_false', Int.not_lt, Int.not_le, ne_eq, Decidable.not_not] at hb0); (try (exfalso; first | contradiction | omega))))) | ((with_reducible show Ox _ _ _ _ _); first | ((with_reducible apply Ox.loadAgg (cs := [.int .u8 (f k).k, .slice vba (f k).lb.length vbc, .int .i64 (f k).x])); (exact rfl); (exact rfl); (intro j v hj; rw [Nat.add_assoc]; exact (cell_fr (S := []) FrA hb (by simp)).trans (hcell j v hj))) | ((with_reducible show Ox _ ⟨some 2, _, _, _, _, _⟩ _ _ _); (refine OxA.boxB (h := ?_); intro b2 w2 hb2 hF2 hg2 hs2)) | ((with_reducible show Ox _ ⟨some 7, _, _, _, _, _⟩ _ _ _); (refine OxA.allocB (h := ?_); intro b7 w7 hb7 hF7 hg7 hs7)) | (refine OxA.move (h := ?_)) | (refine OxA.fieldAddr0 (h := ?_)) | (refine OxA.fieldAddrN (h := ?_)) | (refine OxA.fieldAddr (h := ?_)) | (refine OxA.load (h := ?_)) | (refine OxA.assign (h := ?_)) | (refine OxA.pickT (h := ?_)) | (refine OxA.pickF (h := ?_)) | (refine OxA.pickTo (h := ?_)) | (refine OxA.pickFo (h := ?_)) | (refine OxA.add' (h := ?_)) | (refine OxA.add (h := ?_)) | (refine OxA.lss (h := ?_)) | (refine OxA.leq (h := ?_)) | (refine OxA.gtr (h := ?_)) | (refine OxA.geq (h := ?_)) | (refine OxA.loadAggB (h := ?_)) | (refine OxA.storeAggB (h := ?_); intro w1 hb1 hF1 hs1) | (refine OxA.len (h := ?_)) | (refine OxA.storeB (h := ?_); intro w1 hb1 hF1 hs1) | (refine OxA.indexAddr1 (h := ?_)) | ((with_reducible apply Ox.indexAddrN); (exact rfl); (exact rfl); (omega); (omega); (first | (conv => lhs; simp only [Nat.zero_add, Int.toNat_natCast]) | exact rfl)) | (refine OxA.indexAddr (h := ?_)) | (refine OxA.boxB (h := ?_); intro b1 w1 hb1 hF1 hg1 hs1) | (refine OxA.allocB (h := ?_); intro b1 w1 hb1 hF1 hg1 hs1) | (refine OxA.lenS (h := ?_))) | ((with_reducible show Wp _ _ _ _ _ _); first | ((with_reducible apply Wp.seq)) | ((with_reducible apply Wp.region)) | ((with_reducible apply Wp.skip)) | ((with_reducible apply Wp.ret)) | (refine WpA.condT (h := ?_)) | (refine WpA.condF (h := ?_)) | (refine WpA.condTo (h := ?_)) | (refine WpA.condFo (h := ?_)) | ((with_reducible apply Wp.cond); (exact rfl); all_goals (intro hb; (have hb0 := hb; try simp only [decide_eq_true_eq, decide_eq_false_iff_not, Bool.not_eq_true', Bool.not_eq_false', Int.not_lt, Int.not_le, ne_eq, Decidable.not_not] at hb0); (try (exfalso; first | contradiction | omega)))) | ((with_reducible apply Wp.block)) | ((with_reducible apply Wp.exit)) | ((with_reducible apply Wp.label))) | ((with_reducible apply thenQ_n)) | ((with_reducible apply thenQ_r)) | ((with_reducible apply thenQ_e)) | ((with_reducible apply RetQ.one); (exact rfl); (conv => lhs; whnf)) | ((with_reducible apply RetQ.two); (exact rfl); (conv => lhs; whnf); (conv => lhs; whnf)) | ((with_reducible apply RetQ.zero); (exact rfl)) | ((with_reducible apply RetQ.zeroE); (exact rfl)) | ((with_reducible apply RetQ.three); (exact rfl); (conv => lhs; whnf); (conv => lhs; whnf); (conv => lhs; whnf)) | ((with_reducible apply blockQ_n)) | ((with_reducible apply blockQ_r)) | ((with_reducible apply blockQ_here); (exact rfl)) | ((with_reducible apply blockQ_on); (decide)))
    · refine ⟨false, rfl, ?_, ?_⟩
      · simp
      · exact FrA
    · refine ⟨len - (k + 1), by omega, k + 1, _, rfl, by omega, rfl, rfl, rfl, rfl, rfl, by omega, by omega, fun i hi => ?_, BlkA, FrA⟩
      by_cases e : i = k
      · subst e; omega
      · exact hN3 i (by omega)
  · obtain rfl : k = len := by omega
    repeat' (first | ((with_reducible show Wo _ _ _ _ _ _ _); first | (refine WoA.step (h := ?_)) | ((with_reducible apply Wo.nil)) | ((with_reducible apply Wo.step0)) | (refine WoA.list (h := ?_)) | (refine WoA.yesT (h := ?_)) | (refine WoA.yesF (h := ?_)) | (refine WoA.noT (h := ?_)) | (refine WoA.noF (h := ?_)) | (refine WoA.noU (h := ?_)) | (refine WoA.yesTo (h := ?_)) | (refine WoA.yesFo (h := ?_)) | (refine WoA.noTo (h := ?_)) | (refine WoA.noFo (h := ?_)) | ((with_reducible apply Wo.part); (exact rfl); (exact rfl); (exact rfl); all_goals (intro hb; (have hb0 := hb; try simp only [decide_eq_true_eq, decide_eq_false_iff_not, Bool.not_eq_true', Bool.not_eq_false', Int.not_lt, Int.not_le, ne_eq, Decidable.not_not] at hb0); (try (exfalso; first | contradiction | omega))))) | ((with_reducible show Ox _ _ _ _ _); first | ((with_reducible show Ox _ ⟨some 2, _, _, _, _, _⟩ _ _ _); (refine OxA.boxB (h := ?_); intro b2 w2 hb2 hF2 hg2 hs2)) | ((with_reducible show Ox _ ⟨some 7, _, _, _, _, _⟩ _ _ _); (refine OxA.allocB (h := ?_); intro b7 w7 hb7 hF7 hg7 hs7)) | (refine OxA.move (h := ?_)) | (refine OxA.fieldAddr0 (h := ?_)) | (refine OxA.fieldAddrN (h := ?_)) | (refine OxA.fieldAddr (h := ?_)) | (refine OxA.load (h := ?_)) | (refine OxA.assign (h := ?_)) | (refine OxA.pickT (h := ?_)) | (refine OxA.pickF (h := ?_)) | (refine OxA.pickTo (h := ?_)) | (refine OxA.pickFo (h := ?_)) | (refine OxA.add' (h := ?_)) | (refine OxA.add (h := ?_)) | (refine OxA.lss (h := ?_)) | (refine OxA.leq (h := ?_)) | (refine OxA.gtr (h := ?_)) | (refine OxA.geq (h := ?_)) | (refine OxA.loadAggB (h := ?_)) | (refine OxA.storeAggB (h := ?_); intro w1 hb1 hF1 hs1) | (refine OxA.len (h := ?_)) | (refine OxA.storeB (h := ?_); intro w1 hb1 hF1 hs1) | (refine OxA.indexAddr1 (h := ?_)) | ((with_reducible apply Ox.indexAddrN); (exact rfl); (exact rfl); (omega); (omega); (first | (conv => lhs; simp only [Nat.zero_add, Int.toNat_natCast]) | exact rfl)) | (refine OxA.indexAddr (h := ?_)) | (refine OxA.boxB (h := ?_); intro b1 w1 hb1 hF1 hg1 hs1) | (refine OxA.allocB (h := ?_); intro b1 w1 hb1 hF1 hg1 hs1) | (refine OxA.lenS (h := ?_))) | ((with_reducible show Wp _ _ _ _ _ _); first | ((with_reducible apply Wp.seq)) | ((with_reducible apply Wp.region)) | ((with_reducible apply Wp.skip)) | ((with_reducible apply Wp.ret)) | (refine WpA.condT (h := ?_)) | (refine WpA.condF (h := ?_)) | (refine WpA.condTo (h := ?_)) | (refine WpA.condFo (h := ?_)) | ((with_reducible apply Wp.cond); (exact rfl); all_goals (intro hb; (have hb0 := hb; try simp only [decide_eq_true_eq, decide_eq_false_iff_not, Bool.not_eq_true', Bool.not_eq_false', Int.not_lt, Int.not_le, ne_eq, Decidable.not_not] at hb0); (try (exfalso; first | contradiction | omega)))) | ((with_reducible apply Wp.block)) | ((with_reducible apply Wp.exit)) | ((with_reducible apply Wp.label))) | ((with_reducible apply thenQ_n)) | ((with_reducible apply thenQ_r)) | ((with_reducible apply thenQ_e)) | ((with_reducible apply RetQ.one); (exact rfl); (conv => lhs; whnf)) | ((with_reducible apply RetQ.two); (exact rfl); (conv => lhs; whnf); (conv => lhs; whnf)) | ((with_reducible apply RetQ.zero); (exact rfl)) | ((with_reducible apply RetQ.zeroE); (exact rfl)) | ((with_reducible apply RetQ.three); (exact rfl); (conv => lhs; whnf); (conv => lhs; whnf); (conv => lhs; whnf)) | ((with_reducible apply blockQ_n)) | ((with_reducible apply blockQ_r)) | ((with_reducible apply blockQ_here); (exact rfl)) | ((with_reducible apply blockQ_on); (decide)))
    all_goals exact ⟨_, rfl, fun hh => ⟨by omega, hN3, by first | omega | (simp only [decide_eq_true_eq] at hh; omega) | (simp at hh; fail_if_success (focus skip)), by first | omega | (simp only [decide_eq_true_eq] at hh; omega) | (simp at hh; fail_if_success (focus skip))⟩, FrA⟩
end Go.Proofs.Ytfkejibahhppfaa
