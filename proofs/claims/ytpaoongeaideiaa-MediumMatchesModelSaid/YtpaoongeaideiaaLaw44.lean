/- Chapter 44: operations as arguments; the example; few operations; plain laws of a medium. No condition. -/
import Derived.Test.YtpaoongeaideiaaMedC
import Derived.Test.YtpaoongeaideiaaArg
namespace Go.Proofs.Ytpaoongeaideiaa
open Go.RowKit
set_option linter.unusedSimpArgs false
set_option maxHeartbeats 4000000
set_option linter.unusedVariables false

structure ActD where
  k : Int
  i : Int
  u : Bool
  vb : Value
  lb : List Int
  bit : Int
  pat : Int
  deriving Inhabited
abbrev ActD.vs (o : ActD) : List Value := [.int .i64 o.k, .int .i64 o.i, .bool o.u, o.vb, .int .i64 o.bit, .int .u16 o.pat]
structure ActOk (w : World) (o : ActD) : Prop where
  k : -9223372036854775808 ≤ o.k ∧ o.k ≤ 9223372036854775807
  i : -9223372036854775808 ≤ o.i ∧ o.i ≤ 9223372036854775807
  b : RdB w [] o.vb o.lb
  len : o.lb.length ≤ 140737488351232
  bit : -9223372036854775808 ≤ o.bit ∧ o.bit ≤ 9223372036854775807
  pat : 0 ≤ o.pat ∧ o.pat ≤ 65535
theorem u16_wf {a : Int} (h : (Lit.int .u16 a).wf = true) : 0 ≤ a ∧ a ≤ 65535 := by
  simp only [Lit.wf, Bool.and_eq_true, decide_eq_true_eq] at h
  exact h
theorem act_of_arg {w : World} {es : List Value} (h : ArgC w 39 es) : ∃ o : ActD, es = o.vs ∧ ActOk w o := by
  have hs := h.struct Try.underlying39
  have hl : es.length = 6 := hs.1.trans (by kernel_rfl)
  have f0 := h.field Try.underlying39 0 3 0 1 rfl (by kernel_rfl)
  have f1 := h.field Try.underlying39 1 2 1 1 rfl (by kernel_rfl)
  have f2 := h.field Try.underlying39 2 4 2 1 rfl (by kernel_rfl)
  have f3 := h.field Try.underlying39 3 22 3 1 rfl (by kernel_rfl)
  have f4 := h.field Try.underlying39 4 3 4 1 rfl (by kernel_rfl)
  have f5 := h.field Try.underlying39 5 23 5 1 rfl (by kernel_rfl)
  clear h hs
  obtain ⟨e0, e1, e2, e3, e4, e5, rfl⟩ : ∃ e0 e1 e2 e3 e4 e5, es = [e0, e1, e2, e3, e4, e5] := by
    match es, hl with
    | [e0, e1, e2, e3, e4, e5], _ => exact ⟨e0, e1, e2, e3, e4, e5, rfl⟩
  simp only [List.drop_zero, List.drop_succ_cons, List.take_succ_cons, List.take_zero] at f0 f1 f2 f3 f4 f5
  obtain ⟨n0, h0, w0⟩ := f0.int Try.underlying3
  obtain ⟨n1, h1, w1⟩ := f1.int Try.underlying2
  obtain ⟨n2, h2⟩ := f2.bool Try.underlying4
  obtain ⟨n4, h4, w4⟩ := f4.int Try.underlying3
  obtain ⟨n5, h5, w5⟩ := f5.int Try.underlying23
  obtain ⟨b, len, cap, lb, h6, h7, h8, h9⟩ := f3.bytes Try.underlying22 Try.underlying5 (by kernel_rfl) (by kernel_rfl)
  simp only [List.cons.injEq, and_true] at h0 h1 h2 h4 h5 h6
  subst h0 h1 h2 h4 h5 h6
  subst h7
  exact ⟨⟨n0, n1, n2, _, lb, n4, n5⟩, rfl, i64_wf w0, i64_wf w1, h8, h9, i64_wf w4, u16_wf w5⟩
def ActsAt (w : World) (a : Option Addr) (len : Nat) (f : Nat → ActD) : Prop := len = 0 ∨ ∃ b o, a = some ⟨b, o, none⟩ ∧ b < w.heap.size ∧ ∀ i, i < len → ActOk w (f i) ∧ ∀ (j : Nat) v, (f i).vs[j]? = some v → w.cell? ⟨b, o + (i * 6 + j), none⟩ = some v
theorem ActOk.k' {w w' : World} {o : ActD} (h : ActOk w o) (hf : Fr w w' [] := by (focus ((repeat (first | assumption | exact Fr.refl _ _ | refine Fr.back (by assumption) (by first | exact fun k hk => .inl hk | (intro k hk; simp only [List.mem_cons, List.not_mem_nil, or_false] at hk ⊢ <;> first | omega | (simp [Value.ownBlock] at hk ⊢; omega) | (simp [fp, Mtr.blocks, *]; fail_if_success (focus skip)) | (simp [fp, Mtr.blocks, *]; omega)) | (refine subP (by assumption) ?_ ?_ <;> first | omega | (simp; fail_if_success (focus skip)) | exact fun k hk => .inl hk | (intro k hk; simp at hk ⊢; omega)) | (focus (repeat' (first | exact fun k hk => .inl hk | exact fun k hk => .inl (List.mem_cons_of_mem _ hk) | exact fun k hk => .inl (List.mem_cons_of_mem _ (List.mem_cons_of_mem _ hk)) | (with_reducible refine subC ?_ ?_) | (right; omega) | (left; simp; fail_if_success (focus skip)) | (left; simp [fp]; fail_if_success (focus skip)))); fail_if_success (focus skip))) ?_)); fail_if_success (focus skip)))) : ActOk w' o := ⟨h.k, h.i, h.b.k, h.len, h.bit, h.pat⟩
theorem ActsAt.k {w w' : World} {a : Option Addr} {len : Nat} {f : Nat → ActD} (h : ActsAt w a len f) (hf : Fr w w' [] := by (focus ((repeat (first | assumption | exact Fr.refl _ _ | refine Fr.back (by assumption) (by first | exact fun k hk => .inl hk | (intro k hk; simp only [List.mem_cons, List.not_mem_nil, or_false] at hk ⊢ <;> first | omega | (simp [Value.ownBlock] at hk ⊢; omega) | (simp [fp, Mtr.blocks, *]; fail_if_success (focus skip)) | (simp [fp, Mtr.blocks, *]; omega)) | (refine subP (by assumption) ?_ ?_ <;> first | omega | (simp; fail_if_success (focus skip)) | exact fun k hk => .inl hk | (intro k hk; simp at hk ⊢; omega)) | (focus (repeat' (first | exact fun k hk => .inl hk | exact fun k hk => .inl (List.mem_cons_of_mem _ hk) | exact fun k hk => .inl (List.mem_cons_of_mem _ (List.mem_cons_of_mem _ hk)) | (with_reducible refine subC ?_ ?_) | (right; omega) | (left; simp; fail_if_success (focus skip)) | (left; simp [fp]; fail_if_success (focus skip)))); fail_if_success (focus skip))) ?_)); fail_if_success (focus skip)))) : ActsAt w' a len f := by
  rcases h with h | ⟨b, o, h1, h2, h3⟩
  · exact .inl h
  · exact .inr ⟨b, o, h1, Nat.lt_of_lt_of_le h2 hf.size, fun i hi => ⟨(h3 i hi).1.k', fun j v hj => (cell_fr hf h2 (by simp)).trans ((h3 i hi).2 j v hj)⟩⟩
theorem acts_of_arg {w : World} {v : Value} (h : Arg w 36 v) : ∃ a len cap f, v.cells.toList = [.slice a len cap] ∧ ActsAt w a len f ∧ len ≤ 3000000000000 := by
  obtain ⟨a, len, cap, h1, _, _, h2, h3⟩ := h.c.slice Try.underlying36 (sz := 6) (by kernel_rfl) (by omega) (by_ := 64) (by kernel_rfl)
  rcases h3 with h3 | ⟨b, o, h4, h5, h6⟩
  · exact ⟨a, len, cap, fun _ => default, h1, .inl h3, by omega⟩
  · obtain ⟨f, hf⟩ := skolem_lt (α := ActD) (P := fun i d => ActOk w d ∧ ∀ (j : Nat) v, d.vs[j]? = some v → w.cell? ⟨b, o + (i * 6 + j), none⟩ = some v) (len := len) fun i hi => by
      obtain ⟨es, _, he, hc⟩ := h6 i hi
      obtain ⟨d, rfl, hk⟩ := act_of_arg he
      exact ⟨d, hk, hc⟩
    exact ⟨a, len, cap, f, h1, .inr ⟨b, o, h4, h5, hf⟩, by omega⟩

theorem few44_calls {a : Option Addr} {len cap : Nat} {f : Nat → ActD} (w : World) (h : ActsAt w a len f) (hl : len ≤ 3000000000000) :
    Calls Try.prog 11 #[.slice a len cap] w fun e w' => ∃ r, e = .returned (.bool r) ∧ (r = true → len ≤ 60 ∧ ∀ i, i < len → (f i).lb.length ≤ 300) ∧ Fr w w' [] := by
  refine calls_Wp (args := [_]) Try.func11 rfl Try.ntmps11 (by simp) ?_
  repeat' (first | ((with_reducible show Wo _ _ _ _ _ _ _ _); first | (refine WoA.step (h := ?_)) | ((with_reducible apply Wo.nil)) | ((with_reducible apply Wo.step0)) | (refine WoA.list (h := ?_))) | ((with_reducible show Ox _ _ _ _ _); first | ((with_reducible show Ox _ ⟨some 4, _, _, _, _, _⟩ _ _ _); (refine OxA.allocB (h := ?_); intro b4 w4 hb4 hF4 hg4 hs4)) | (refine OxA.move (h := ?_)) | (refine OxA.fieldAddr0 (h := ?_)) | (refine OxA.fieldAddrN (h := ?_)) | (refine OxA.fieldAddr (h := ?_)) | (refine OxA.load (h := ?_)) | (refine OxA.assign (h := ?_)) | (refine OxA.add' (h := ?_)) | (refine OxA.add (h := ?_)) | (refine OxA.lss (h := ?_)) | (refine OxA.leq (h := ?_)) | (refine OxA.gtr (h := ?_)) | (refine OxA.loadAggB (h := ?_)) | (refine OxA.storeAggB (h := ?_); intro w1 hb1 hF1 hs1) | (refine OxA.len (h := ?_)) | (refine OxA.storeB (h := ?_); intro w1 hb1 hF1 hs1) | (refine OxA.indexAddr1 (h := ?_)) | ((with_reducible apply Ox.indexAddrN); (exact rfl); (exact rfl); (omega); (omega); (first | (conv => lhs; simp only [Nat.zero_add, Int.toNat_natCast]) | exact rfl)) | (refine OxA.indexAddr (h := ?_)) | (refine OxA.allocB (h := ?_); intro b1 w1 hb1 hF1 hg1 hs1) | (refine OxA.lenS (h := ?_))) | ((with_reducible show Wp _ _ _ _ _ _ _); first | ((with_reducible apply Wp.seq)) | ((with_reducible apply Wp.region)) | ((with_reducible apply Wp.skip)) | ((with_reducible apply Wp.ret)) | (refine WpA.condT (h := ?_)) | (refine WpA.condF (h := ?_)) | (refine WpA.condTo (h := ?_)) | (refine WpA.condFo (h := ?_)) | ((with_reducible apply Wp.cond); (exact rfl); all_goals (intro hb; (have hb0 := hb; try simp only [decide_eq_true_eq, decide_eq_false_iff_not, Bool.not_eq_true', Bool.not_eq_false', Int.not_lt, Int.not_le, ne_eq, Decidable.not_not] at hb0); (try (exfalso; first | contradiction | omega)))) | ((with_reducible apply Wp.block)) | ((with_reducible apply Wp.exit)) | ((with_reducible apply Wp.label))) | ((with_reducible apply thenQ_n)) | ((with_reducible apply thenQ_r)) | ((with_reducible apply thenQ_e)) | ((with_reducible apply RetQ.one); (exact rfl); (conv => lhs; whnf)) | ((with_reducible apply RetQ.two); (exact rfl); (conv => lhs; whnf); (conv => lhs; whnf)) | ((with_reducible apply RetQ.zero); (exact rfl)) | ((with_reducible apply RetQ.zeroE); (exact rfl)) | ((with_reducible apply RetQ.three); (exact rfl); (conv => lhs; whnf); (conv => lhs; whnf); (conv => lhs; whnf)) | ((with_reducible apply blockQ_n)) | ((with_reducible apply blockQ_r)) | ((with_reducible apply blockQ_here); (exact rfl)) | ((with_reducible apply blockQ_on); (decide)))
  refine Wp.loop (fun m ρ w1 => ∃ (k : Nat), m = len - k ∧ k ≤ len ∧ ρ 0 = .slice a len cap ∧ ρ 5 = .slice a len cap ∧ ρ 6 = .int .i64 len ∧ ρ 7 = .int .i64 k ∧ (∀ i, i < k → (f i).lb.length ≤ 300) ∧ Fr w w1 []) len ⟨0, rfl, Nat.zero_le _, rfl, rfl, rfl, rfl, by omega, FrA⟩ ?_
  rintro m ρ w1 ⟨k, rfl, hk, s0, s5, s6, s7, hN, hF⟩
  have hz := hF.size
  refine Wp.keep (t := 0) s0 (Wp.keep (t := 5) s5 (Wp.keep (t := 6) s6 (Wp.keep (t := 7) s7 (?_))))
  by_cases hlt : k < len
  · obtain ⟨b, o, rfl, hb, hop⟩ := h.resolve_left (by omega)
    obtain ⟨hok, hcell⟩ := hop k hlt
    obtain ⟨vba, vbc, hvb⟩ := hok.b.toV.slice
    have hlb := hok.len
    unfold ActD.vs at hcell
    rw [hvb] at hcell
    repeat' (first | ((with_reducible show Wo _ _ _ _ _ _ _ _); first | (refine WoA.step (h := ?_)) | ((with_reducible apply Wo.nil)) | ((with_reducible apply Wo.step0)) | (refine WoA.list (h := ?_))) | ((with_reducible show Ox _ _ _ _ _); first | ((with_reducible apply Ox.loadAgg (cs := [.int .i64 (f k).k, .int .i64 (f k).i, .bool (f k).u, .slice vba (f k).lb.length vbc, .int .i64 (f k).bit, .int .u16 (f k).pat])); (exact rfl); (exact rfl); (intro j v hj; rw [Nat.add_assoc]; exact (cell_fr (S := []) FrA hb (by simp)).trans (hcell j v hj))) | ((with_reducible show Ox _ ⟨some 4, _, _, _, _, _⟩ _ _ _); (refine OxA.allocB (h := ?_); intro b4 w4 hb4 hF4 hg4 hs4)) | (refine OxA.move (h := ?_)) | (refine OxA.fieldAddr0 (h := ?_)) | (refine OxA.fieldAddrN (h := ?_)) | (refine OxA.fieldAddr (h := ?_)) | (refine OxA.load (h := ?_)) | (refine OxA.assign (h := ?_)) | (refine OxA.add' (h := ?_)) | (refine OxA.add (h := ?_)) | (refine OxA.lss (h := ?_)) | (refine OxA.leq (h := ?_)) | (refine OxA.gtr (h := ?_)) | (refine OxA.loadAggB (h := ?_)) | (refine OxA.storeAggB (h := ?_); intro w1 hb1 hF1 hs1) | (refine OxA.len (h := ?_)) | (refine OxA.storeB (h := ?_); intro w1 hb1 hF1 hs1) | (refine OxA.indexAddr1 (h := ?_)) | ((with_reducible apply Ox.indexAddrN); (exact rfl); (exact rfl); (omega); (omega); (first | (conv => lhs; simp only [Nat.zero_add, Int.toNat_natCast]) | exact rfl)) | (refine OxA.indexAddr (h := ?_)) | (refine OxA.allocB (h := ?_); intro b1 w1 hb1 hF1 hg1 hs1) | (refine OxA.lenS (h := ?_))) | ((with_reducible show Wp _ _ _ _ _ _ _); first | ((with_reducible apply Wp.seq)) | ((with_reducible apply Wp.region)) | ((with_reducible apply Wp.skip)) | ((with_reducible apply Wp.ret)) | (refine WpA.condT (h := ?_)) | (refine WpA.condF (h := ?_)) | (refine WpA.condTo (h := ?_)) | (refine WpA.condFo (h := ?_)) | ((with_reducible apply Wp.cond); (exact rfl); all_goals (intro hb; (have hb0 := hb; try simp only [decide_eq_true_eq, decide_eq_false_iff_not, Bool.not_eq_true', Bool.not_eq_false', Int.not_lt, Int.not_le, ne_eq, Decidable.not_not] at hb0); (try (exfalso; first | contradiction | omega)))) | ((with_reducible apply Wp.block)) | ((with_reducible apply Wp.exit)) | ((with_reducible apply Wp.label))) | ((with_reducible apply thenQ_n)) | ((with_reducible apply thenQ_r)) | ((with_reducible apply thenQ_e)) | ((with_reducible apply RetQ.one); (exact rfl); (conv => lhs; whnf)) | ((with_reducible apply RetQ.two); (exact rfl); (conv => lhs; whnf); (conv => lhs; whnf)) | ((with_reducible apply RetQ.zero); (exact rfl)) | ((with_reducible apply RetQ.zeroE); (exact rfl)) | ((with_reducible apply RetQ.three); (exact rfl); (conv => lhs; whnf); (conv => lhs; whnf); (conv => lhs; whnf)) | ((with_reducible apply blockQ_n)) | ((with_reducible apply blockQ_r)) | ((with_reducible apply blockQ_here); (exact rfl)) | ((with_reducible apply blockQ_on); (decide)))
    · exact ⟨false, rfl, by simp, FrA⟩
    · refine ⟨len - (k + 1), by omega, k + 1, rfl, by omega, rfl, rfl, rfl, rfl, fun i hi => ?_, FrA⟩
      by_cases e : i = k
      · subst e; omega
      · exact hN i (by omega)
  · obtain rfl : k = len := by omega
    repeat' (first | ((with_reducible show Wo _ _ _ _ _ _ _ _); first | (refine WoA.step (h := ?_)) | ((with_reducible apply Wo.nil)) | ((with_reducible apply Wo.step0)) | (refine WoA.list (h := ?_))) | ((with_reducible show Ox _ _ _ _ _); first | ((with_reducible show Ox _ ⟨some 4, _, _, _, _, _⟩ _ _ _); (refine OxA.allocB (h := ?_); intro b4 w4 hb4 hF4 hg4 hs4)) | (refine OxA.move (h := ?_)) | (refine OxA.fieldAddr0 (h := ?_)) | (refine OxA.fieldAddrN (h := ?_)) | (refine OxA.fieldAddr (h := ?_)) | (refine OxA.load (h := ?_)) | (refine OxA.assign (h := ?_)) | (refine OxA.add' (h := ?_)) | (refine OxA.add (h := ?_)) | (refine OxA.lss (h := ?_)) | (refine OxA.leq (h := ?_)) | (refine OxA.gtr (h := ?_)) | (refine OxA.loadAggB (h := ?_)) | (refine OxA.storeAggB (h := ?_); intro w1 hb1 hF1 hs1) | (refine OxA.len (h := ?_)) | (refine OxA.storeB (h := ?_); intro w1 hb1 hF1 hs1) | (refine OxA.indexAddr1 (h := ?_)) | ((with_reducible apply Ox.indexAddrN); (exact rfl); (exact rfl); (omega); (omega); (first | (conv => lhs; simp only [Nat.zero_add, Int.toNat_natCast]) | exact rfl)) | (refine OxA.indexAddr (h := ?_)) | (refine OxA.allocB (h := ?_); intro b1 w1 hb1 hF1 hg1 hs1) | (refine OxA.lenS (h := ?_))) | ((with_reducible show Wp _ _ _ _ _ _ _); first | ((with_reducible apply Wp.seq)) | ((with_reducible apply Wp.region)) | ((with_reducible apply Wp.skip)) | ((with_reducible apply Wp.ret)) | (refine WpA.condT (h := ?_)) | (refine WpA.condF (h := ?_)) | (refine WpA.condTo (h := ?_)) | (refine WpA.condFo (h := ?_)) | ((with_reducible apply Wp.cond); (exact rfl); all_goals (intro hb; (have hb0 := hb; try simp only [decide_eq_true_eq, decide_eq_false_iff_not, Bool.not_eq_true', Bool.not_eq_false', Int.not_lt, Int.not_le, ne_eq, Decidable.not_not] at hb0); (try (exfalso; first | contradiction | omega)))) | ((with_reducible apply Wp.block)) | ((with_reducible apply Wp.exit)) | ((with_reducible apply Wp.label))) | ((with_reducible apply thenQ_n)) | ((with_reducible apply thenQ_r)) | ((with_reducible apply thenQ_e)) | ((with_reducible apply RetQ.one); (exact rfl); (conv => lhs; whnf)) | ((with_reducible apply RetQ.two); (exact rfl); (conv => lhs; whnf); (conv => lhs; whnf)) | ((with_reducible apply RetQ.zero); (exact rfl)) | ((with_reducible apply RetQ.zeroE); (exact rfl)) | ((with_reducible apply RetQ.three); (exact rfl); (conv => lhs; whnf); (conv => lhs; whnf); (conv => lhs; whnf)) | ((with_reducible apply blockQ_n)) | ((with_reducible apply blockQ_r)) | ((with_reducible apply blockQ_here); (exact rfl)) | ((with_reducible apply blockQ_on); (decide)))
    all_goals exact ⟨_, rfl, fun hh => ⟨by first | omega | (simp only [decide_eq_true_eq] at hh; omega), hN⟩, FrA⟩

theorem rdb1 {w : World} {S : List Nat} {b : Nat} {x : Int} (hb : w.heap[b]? = some (.cells #[.int .u8 x] 5 (0, 0))) (hx : 0 ≤ x ∧ x < 256) (hS : b ∉ S) : RdB w S (.slice (some ⟨b, 0, none⟩) 1 1) [x] := by
  refine ⟨_, 1, rfl, Nat.le_refl _, by simp; exact hx, .inr ⟨b, 0, rfl, hS, lt_of_block hb, ?_⟩⟩
  intro j hj
  simp at hj
  subst hj
  exact cell_of hb rfl

section
variable {M : Md} {n : Int}
theorem Md.Ok.up (h : M.Ok n) (hn : n < 1000000) : M.Ok (n + 1) := by
  obtain ⟨a, b, c, d, e, f, g, i, j, k, l⟩ := h
  exact ⟨by omega, b, by omega, by omega, by omega, by omega, by omega, by omega, j, k, l⟩
theorem Md.Ok.snoc (h : M.Ok n) (hn : n < 1000000) (hf : ¬ M.most ≤ M.ps.length) (u : Bool) (d : List Int) (hd : 1 ≤ d.length ∧ d.length ≤ 256) : Md.Ok { M with last := M.last + 1, ps := M.ps ++ [⟨M.last + 1, u, d⟩] } (n + 1) := by
  obtain ⟨a, b, c, d1, e, f, g, i, j, k, l⟩ := h
  refine ⟨by omega, b, by show 0 ≤ M.last + 1 ∧ M.last + 1 ≤ n + 1; omega, by show 0 ≤ M.c0 ∧ M.c0 ≤ n + 1; omega, by show 0 ≤ M.c1 ∧ M.c1 ≤ n + 1; omega, by show 0 ≤ M.c2 ∧ M.c2 ≤ n + 1; omega, by show 0 ≤ M.c3 ∧ M.c3 ≤ n + 1; omega, by show 0 ≤ M.c4 ∧ M.c4 ≤ n + 1; omega, ?_, ?_, ?_⟩
  · show ((M.ps ++ [_]).length : Int) ≤ M.most
    rw [List.length_append, List.length_singleton]; omega
  · intro x hx
    rcases List.mem_append.1 hx with hx | hx
    · have := k x hx
      refine ⟨this.1, ?_, this.2.2⟩
      show x.id ≤ M.last + 1
      omega
    · rw [List.mem_singleton.1 hx]
      exact ⟨by show 1 ≤ M.last + 1; omega, by show M.last + 1 ≤ M.last + 1; omega, hd⟩
  · refine List.pairwise_append.2 ⟨l, List.pairwise_singleton _ _, fun x hx y hy => ?_⟩
    rw [List.mem_singleton.1 hy]
    have := k x hx
    show x.id < M.last + 1
    omega
theorem Md.Ok.less (h : M.Ok n) (hn : n < 1000000) (x : Int) : Md.Ok { M with ps := kdel x M.ps } (n + 1) := by
  obtain ⟨a, b, c, d, e, f, g, i, j, k, l⟩ := h
  exact ⟨by omega, b, by show 0 ≤ M.last ∧ M.last ≤ n + 1; omega, by show 0 ≤ M.c0 ∧ M.c0 ≤ n + 1; omega, by show 0 ≤ M.c1 ∧ M.c1 ≤ n + 1; omega, by show 0 ≤ M.c2 ∧ M.c2 ≤ n + 1; omega, by show 0 ≤ M.c3 ∧ M.c3 ≤ n + 1; omega, by show 0 ≤ M.c4 ∧ M.c4 ≤ n + 1; omega,
    by have := (kdel_sub (x := x) (ks := M.ps)).length_le; show ((kdel x M.ps).length : Int) ≤ M.most; omega, fun y hy => k y (kdel_sub.subset hy), l.sublist kdel_sub⟩
theorem Md.Ok.send (h : M.Ok n) (hn : n < 1000000) (u : Bool) (d : List Int) : (M.send u d).2.2.Ok (n + 1) := by
  unfold Md.send
  split
  · exact h.up hn
  · split
    · exact h.up hn
    · rename_i h1 h2
      obtain ⟨a, b, c, d0, e, f, g, i, j, k, l⟩ := h.snoc hn h2 u d (by simpa using h1)
      exact ⟨a, b, c, by have := h.c0; show 0 ≤ M.c0 + 1 ∧ M.c0 + 1 ≤ n + 1; omega, e, f, g, i, j, k, l⟩
theorem Md.Ok.dup (h : M.Ok n) (hn : n < 1000000) (x : Int) : (M.dup x).2.2.Ok (n + 1) := by
  unfold Md.dup
  cases hk : kget x M.ps with
  | none => exact h.up hn
  | some k =>
    dsimp only
    split
    · exact h.up hn
    · rename_i h2
      obtain ⟨a, b, c, d0, e, f, g, i, j, k, l⟩ := h.snoc hn h2 k.up k.data (h.ids k (kget_mem hk).1).2.2
      exact ⟨a, b, c, d0, e, f, by have := h.c3; show 0 ≤ M.c3 + 1 ∧ M.c3 + 1 ≤ n + 1; omega, i, j, k, l⟩
theorem Md.Ok.drop (h : M.Ok n) (hn : n < 1000000) (x : Int) : (M.drop x).2.Ok (n + 1) := by
  unfold Md.drop
  cases hk : kget x M.ps with
  | none => exact h.up hn
  | some k =>
    obtain ⟨a, b, c, d0, e, f, g, i, j, k, l⟩ := h.less hn x
    exact ⟨a, b, c, d0, e, by have := h.c2; show 0 ≤ M.c2 + 1 ∧ M.c2 + 1 ≤ n + 1; omega, g, i, j, k, l⟩
theorem Md.Ok.deliver (h : M.Ok n) (hn : n < 1000000) (x : Int) : (M.deliver x).Ok (n + 1) := by
  unfold Md.deliver
  cases hk : kget x M.ps with
  | none => exact h.up hn
  | some k =>
    obtain ⟨a, b, c, d0, e, f, g, i, j, k, l⟩ := h.less hn x
    exact ⟨a, b, c, d0, by have := h.c1; show 0 ≤ M.c1 + 1 ∧ M.c1 + 1 ≤ n + 1; omega, f, g, i, j, k, l⟩
theorem Md.send_res (u : Bool) (d : List Int) : (M.send u d).2.2.most = M.most ∧ (((M.send u d).2.1 = 0 ∧ (M.send u d).1 = M.last + 1 ∧ (M.send u d).2.2.last = M.last + 1) ∨ ((M.send u d).2.1 ≠ 0 ∧ (M.send u d).1 = 0 ∧ (M.send u d).2.2.last = M.last)) := by
  unfold Md.send
  split
  · exact ⟨rfl, .inr ⟨by simp, rfl, rfl⟩⟩
  · split
    · exact ⟨rfl, .inr ⟨by simp, rfl, rfl⟩⟩
    · exact ⟨rfl, .inl ⟨rfl, rfl, rfl⟩⟩
theorem Md.dup_res (x : Int) : (M.dup x).2.2.most = M.most ∧ (((M.dup x).2.1 = 0 ∧ (M.dup x).1 = M.last + 1 ∧ (M.dup x).2.2.last = M.last + 1) ∨ ((M.dup x).2.1 ≠ 0 ∧ (M.dup x).1 = 0 ∧ (M.dup x).2.2.last = M.last)) := by
  unfold Md.dup
  split
  · exact ⟨rfl, .inr ⟨by simp, rfl, rfl⟩⟩
  · split
    · exact ⟨rfl, .inr ⟨by simp, rfl, rfl⟩⟩
    · exact ⟨rfl, .inl ⟨rfl, rfl, rfl⟩⟩
theorem Md.drop_res (x : Int) : (M.drop x).2.most = M.most ∧ (M.drop x).2.last = M.last := by
  unfold Md.drop
  split <;> exact ⟨rfl, rfl⟩
theorem Md.deliver_res (x : Int) : (M.deliver x).most = M.most ∧ (M.deliver x).last = M.last := by
  unfold Md.deliver
  split <;> exact ⟨rfl, rfl⟩
end
theorem Md.Ok.start {m : Int} (hm : 1 ≤ m ∧ m ≤ 4096) : Md.Ok ⟨m, 0, [], 0, 0, 0, 0, 0⟩ 0 := ⟨by omega, hm, by simp, by simp, by simp, by simp, by simp, by simp, by simp; omega, by simp, .nil⟩

abbrev aw0 : Md := ⟨4, 0, [], 0, 0, 0, 0, 0⟩
abbrev aw1 : Md := ⟨4, 1, [⟨1, true, [15]⟩], 1, 0, 0, 0, 0⟩
abbrev aw2 : Md := ⟨4, 1, [⟨1, true, [143]⟩], 1, 0, 0, 0, 1⟩
abbrev aw3 : Md := ⟨4, 1, [], 1, 1, 0, 0, 1⟩
theorem aw_send : aw0.send true [15] = (1, 0, aw1) := rfl
theorem aw_bad : aw1.corrupt 1 0 32769 = (1, aw1) := by kernel_rfl
theorem aw_good : aw1.corrupt 1 0 32768 = (0, aw2) := by kernel_rfl
theorem aw_ok0 : aw0.Ok 0 := .start (by omega)
theorem aw_ok1 : aw1.Ok 1 := aw_ok0.send (by omega) true [15]
theorem aw_ok2 : aw2.Ok 2 := by
  refine ⟨by omega, by decide, by decide, by decide, by decide, by decide, by decide, by decide, by decide, ?_, List.pairwise_singleton _ _⟩
  intro k hk
  rw [List.mem_singleton.1 hk]
  exact ⟨by decide, by decide, by decide, by decide⟩
theorem aw_del : aw2.deliver 1 = aw3 := rfl
theorem aw_ok3 : aw3.Ok 3 := aw_ok2.deliver (by omega) 1
theorem awake44_calls (w : World) : Calls Try.prog 6 #[] w fun e w' => e = .returned (.bool true) ∧ Fr w w' [] := by
  refine calls_Wp (args := []) Try.func6 rfl Try.ntmps6 (by simp) ?_
  repeat' (first | ((with_reducible show Calls _ _ _ _ _); first | ((with_reducible refine (mnew_calls 4 _).mono ?_); rintro e wA ⟨hFA, ⟨hc, -⟩ | ⟨-, g, r, hg, hr, rfl, hA⟩⟩; (exact absurd (by omega) hc); (replace hA := hA []); (have hzA := hFA.size); (have hgl := lt_of_block hA.hg); (obtain ⟨_, hmp, -⟩ := id hA.hm); (have hrl := hmp.lt); (have hgr := hA.ne); refine ⟨_, rfl, ?_⟩) | ((with_reducible refine (msend_calls true _ [15] _ hA.k (by simp) aw_ok0 (by omega) (rdb1 (S := [g, r]) hb20 (by omega) (by simp; omega)).k (by simp)).mono ?_); rw [aw_send]; (dsimp only); rintro e wB ⟨rfl, hB, hFB⟩; (have hzB := hFB.size); refine ⟨_, rfl, ?_⟩) | ((with_reducible refine (mcorrupt_calls 1 0 32769 _ hB.k (by simp) aw_ok1 (by omega) (by omega) (by omega)).mono ?_); rw [aw_bad]; (dsimp only); rintro e wC ⟨rfl, hC, hFC⟩; (have hzC := hFC.size); refine ⟨_, rfl, ?_⟩) | ((with_reducible refine (mcorrupt_calls 1 0 32768 _ hC.k (by simp) aw_ok1 (by omega) (by omega) (by omega)).mono ?_); rw [aw_good]; (dsimp only); rintro e wD ⟨rfl, hD, hFD⟩; (have hzD := hFD.size); refine ⟨_, rfl, ?_⟩) | ((with_reducible refine (mdeliver_calls 1 _ hD.k (by simp) aw_ok2 (by omega)).mono ?_); rw [aw_del]; rintro e wE ⟨hE, hFE, ⟨hc, -⟩ | ⟨k, v, hk, rfl, hrv⟩⟩; (exact absurd hc (by decide)); (cases hk); (have hrv1 : RdV wE (g :: r :: []) 1 v 1 [.int .u8 143] := hrv.toV); (have hzE := hFE.size); (obtain ⟨bv, ov, cv, rfl, -⟩ := id (hrv1.open (by simp))); refine ⟨_, rfl, ?_⟩) | ((with_reducible refine (mflight_calls _ hE.k (by simp) aw_ok3 (by omega)).mono ?_); rintro e wF ⟨v, rfl, hv, hFF⟩; (have hzF := hFF.size); (obtain ⟨aF, cF, rfl⟩ := (RdV.own [] hv (by simp)).slice); refine ⟨_, rfl, ?_⟩)) | ((with_reducible show Wo _ _ _ _ _ _ _ _); first | (refine WoA.step (h := ?_)) | ((with_reducible apply Wo.nil)) | ((with_reducible apply Wo.step0)) | (refine WoA.list (h := ?_)) | (refine WoA.yesT (h := ?_)) | (refine WoA.yesF (h := ?_)) | (refine WoA.noT (h := ?_)) | (refine WoA.noF (h := ?_)) | (refine WoA.noU (h := ?_)) | (refine WoA.yesTo (h := ?_)) | (refine WoA.yesFo (h := ?_)) | (refine WoA.noTo (h := ?_)) | (refine WoA.noFo (h := ?_)) | ((with_reducible apply Wo.part); (exact rfl); (exact rfl); (exact rfl); all_goals (intro hb; (have hb0 := hb; try simp only [decide_eq_true_eq, decide_eq_false_iff_not, Bool.not_eq_true', Bool.not_eq_false', Int.not_lt, Int.not_le, ne_eq, Decidable.not_not] at hb0); (try (exfalso; first | contradiction | omega))))) | ((with_reducible show Ox _ _ _ _ _); first | ((with_reducible apply Ox.load); (exact rfl); (exact hrv1.cellA (j := 0) rfl)) | ((with_reducible show Ox _ ⟨some 20, _, _, _, _, _⟩ _ _ _); first | ((with_reducible apply Ox.bs0); intro b20 w20 hb20 hF20 hg20 hs20) | (refine OxA.bs1 (h := ?_); intro b20 w20 hb20 hF20 hg20 hs20) | (refine OxA.bs2 (h := ?_); intro b20 w20 hb20 hF20 hg20 hs20) | ((with_reducible apply Ox.buildSliceE); (repeat (first | exact EvL.nil | ((with_reducible apply EvL.cons); (conv => lhs; whnf)))); (decide); (conv => lhs; simp [Instr.fill, Value.cells, Function.comp, rg2, rg3, rg4, rg5, rg6, rg7, rg8, rg9, rg10, rg11, rg12, rg13, rg14, rg15, rg16]); (intro b20 w20 hb20 hF20 hg20 hs20))) | (refine OxA.move (h := ?_)) | (refine OxA.load (h := ?_)) | (refine OxA.assign (h := ?_)) | (refine OxA.pickT (h := ?_)) | (refine OxA.pickF (h := ?_)) | (refine OxA.pickTo (h := ?_)) | (refine OxA.pickFo (h := ?_)) | (refine OxA.eql (h := ?_)) | (refine OxA.neq (h := ?_)) | (refine OxA.loadAggB (h := ?_)) | (refine OxA.eqlBV (h := ?_)) | (refine OxA.neqBV (h := ?_)) | (refine OxA.eqlB (h := ?_)) | (refine OxA.neqB (h := ?_)) | (refine OxA.len (h := ?_)) | (refine OxA.call1 (h := ?_)) | (refine OxA.call2 (h := ?_)) | (refine OxA.call3 (h := ?_)) | (refine OxA.call4 (h := ?_)) | (refine OxA.indexAddr1 (h := ?_)) | ((with_reducible apply Ox.indexAddrN); (exact rfl); (exact rfl); (omega); (omega); (first | (conv => lhs; simp only [Nat.zero_add, Int.toNat_natCast]) | exact rfl)) | (refine OxA.indexAddr (h := ?_)) | (refine OxA.extract (h := ?_)) | ((with_reducible apply Ox.bs0); intro b1 w1 hb1 hF1 hg1 hs1) | (refine OxA.bs1 (h := ?_); intro b1 w1 hb1 hF1 hg1 hs1) | (refine OxA.bs2 (h := ?_); intro b1 w1 hb1 hF1 hg1 hs1) | ((with_reducible apply Ox.buildSliceE); (repeat (first | exact EvL.nil | ((with_reducible apply EvL.cons); (conv => lhs; whnf)))); (decide); (conv => lhs; simp [Instr.fill, Value.cells, Function.comp, rg2, rg3, rg4, rg5, rg6, rg7, rg8, rg9, rg10, rg11, rg12, rg13, rg14, rg15, rg16]); (intro b1 w1 hb1 hF1 hg1 hs1)) | (refine OxA.eqlSN (h := ?_)) | (refine OxA.eqlPN (h := ?_)) | (refine OxA.neqPN (h := ?_)) | (refine OxA.eqlSame (h := ?_)) | ((with_reducible apply Ox.neqSame); (exact rfl); (exact rfl)) | (refine OxA.eqlS (h := ?_)) | (refine OxA.neqS (h := ?_)) | (refine OxA.lenS (h := ?_))) | ((with_reducible show Wp _ _ _ _ _ _ _); first | ((with_reducible apply Wp.seq)) | ((with_reducible apply Wp.region)) | ((with_reducible apply Wp.skip)) | ((with_reducible apply Wp.ret)) | (refine WpA.condT (h := ?_)) | (refine WpA.condF (h := ?_)) | (refine WpA.condTo (h := ?_)) | (refine WpA.condFo (h := ?_)) | ((with_reducible apply Wp.cond); (exact rfl); all_goals (intro hb; (have hb0 := hb; try simp only [decide_eq_true_eq, decide_eq_false_iff_not, Bool.not_eq_true', Bool.not_eq_false', Int.not_lt, Int.not_le, ne_eq, Decidable.not_not] at hb0); (try (exfalso; first | contradiction | omega)))) | ((with_reducible apply Wp.block)) | ((with_reducible apply Wp.exit)) | ((with_reducible apply Wp.label))) | ((with_reducible apply thenQ_n)) | ((with_reducible apply thenQ_r)) | ((with_reducible apply thenQ_e)) | ((with_reducible apply RetQ.one); (exact rfl); (conv => lhs; whnf)) | ((with_reducible apply RetQ.two); (exact rfl); (conv => lhs; whnf); (conv => lhs; whnf)) | ((with_reducible apply RetQ.zero); (exact rfl)) | ((with_reducible apply RetQ.zeroE); (exact rfl)) | ((with_reducible apply RetQ.three); (exact rfl); (conv => lhs; whnf); (conv => lhs; whnf); (conv => lhs; whnf)) | ((with_reducible apply blockQ_n)) | ((with_reducible apply blockQ_r)) | ((with_reducible apply blockQ_here); (exact rfl)) | ((with_reducible apply blockQ_on); (decide)))
  all_goals exact ⟨by simp, FrA⟩
end Go.Proofs.Ytpaoongeaideiaa
