/- Chapter 36: which checkpoints are small; a checkpoint as the other package's. Conditions: short slices. -/
import Derived.Test.YthpdpipcfhodoaaEq36d
namespace Go.Proofs.Ythpdpipcfhodoaa
open Go.RowKit
set_option linter.unusedSimpArgs false
set_option maxHeartbeats 4000000
set_option linter.unusedVariables false

def smallCp (c : Cp) : Bool := decide (c.vals.length ≤ 20 ∧ c.rem.length ≤ 20 ∧ c.add.length ≤ 20 ∧ c.rels.length ≤ 20)
section
variable {S : List Nat} {c : Cp} {vv vr va vl : Value}
theorem small36_calls (w : World) (h : CpAt w S c vv vr va vl) :
    Calls Try.prog 9 #[cpV c vv vr va vl] w fun e w' => e = .returned (.bool (smallCp c)) ∧ Fr w w' [] := by
  obtain ⟨⟨av, nv, rfl⟩, ⟨ar, nr, rfl⟩, ⟨aa, na, rfl⟩, ⟨al, nl, rfl⟩⟩ := id h.shape
  unfold smallCp
  have hc : ¬ c.vals.length ≤ 20 ∨ (c.vals.length ≤ 20 ∧ ¬ c.rem.length ≤ 20) ∨ (c.vals.length ≤ 20 ∧ c.rem.length ≤ 20 ∧ ¬ c.add.length ≤ 20) ∨ (c.vals.length ≤ 20 ∧ c.rem.length ≤ 20 ∧ c.add.length ≤ 20 ∧ ¬ c.rels.length ≤ 20) ∨ (c.vals.length ≤ 20 ∧ c.rem.length ≤ 20 ∧ c.add.length ≤ 20 ∧ c.rels.length ≤ 20) := by omega
  rcases hc with hc | hc | hc | hc | hc
  all_goals (refine calls_Wp (args := [_]) Try.func9 rfl Try.ntmps9 (by simp) ?_; repeat' (first | ((with_reducible show Wo _ _ _ _ _ _ _ _); first | (refine WoA.step ?_) | ((with_reducible apply Wo.nil)) | ((with_reducible apply Wo.step0)) | (refine WoA.list ?_) | (refine WoA.yesT ?_) | (refine WoA.yesF ?_) | (refine WoA.noT ?_) | (refine WoA.noF ?_) | (refine WoA.noU ?_) | (refine WoA.yesTo ?_) | (refine WoA.yesFo ?_) | (refine WoA.noTo ?_) | (refine WoA.noFo ?_) | ((with_reducible apply Wo.part); (exact rfl); (exact rfl); (exact rfl); all_goals (intro hb; (have hb0 := hb; try simp only [decide_eq_true_eq, decide_eq_false_iff_not, Bool.not_eq_true', Bool.not_eq_false', Int.not_lt, Int.not_le, ne_eq, Decidable.not_not] at hb0); (try (exfalso; first | contradiction | omega))))) | ((with_reducible show Ox _ _ _ _ _); first | ((with_reducible show Ox _ ⟨some 1, _, _, _, _, _⟩ _ _ _); (refine OxA.boxB ?_; intro b1 w1 hb1 hF1 hg1 hs1)) | (refine OxA.move ?_) | (refine OxA.fieldAddr0 ?_) | (refine OxA.fieldAddrN ?_) | (refine OxA.fieldAddr ?_) | (refine OxA.load ?_) | (refine OxA.assign ?_) | (refine OxA.pickT ?_) | (refine OxA.pickF ?_) | (refine OxA.pickTo ?_) | (refine OxA.pickFo ?_) | (refine OxA.leq ?_) | (refine OxA.loadAggB ?_) | (refine OxA.len ?_) | (refine OxA.lenS ?_)) | ((with_reducible show Wp _ _ _ _ _ _ _); first | ((with_reducible apply Wp.seq)) | ((with_reducible apply Wp.region)) | ((with_reducible apply Wp.skip)) | ((with_reducible apply Wp.ret)) | ((with_reducible apply Wp.block)) | ((with_reducible apply Wp.exit)) | ((with_reducible apply Wp.label))) | ((with_reducible apply thenQ_n)) | ((with_reducible apply thenQ_r)) | ((with_reducible apply thenQ_e)) | ((with_reducible apply RetQ.one); (exact rfl); (conv => lhs; whnf)) | ((with_reducible apply blockQ_n)) | ((with_reducible apply blockQ_r)) | ((with_reducible apply blockQ_here); (exact rfl)) | ((with_reducible apply blockQ_on); (decide))))
  all_goals exact ⟨by first | rfl | (rw [decide_eq_false (by omega)]; done) | (rw [decide_eq_true (by omega)]; done) | (congr 2; apply decide_eq_decide.2; omega), FrA⟩
theorem own36_calls (w : World) (h : CpAt w S c vv vr va vl) :
    Calls Try.prog 11 #[cpV c vv vr va vl] w fun e w' => e = .returned (cpV c vv vr va vl) ∧ Fr w w' [] := by
  obtain ⟨⟨av, nv, rfl⟩, ⟨ar, nr, rfl⟩, ⟨aa, na, rfl⟩, ⟨al, nl, rfl⟩⟩ := id h.shape
  refine calls_Wp (args := [_]) Try.func11 rfl Try.ntmps11 (by simp) ?_
  repeat' (first | ((with_reducible show Wo _ _ _ _ _ _ _ _); first | (refine WoA.step ?_) | ((with_reducible apply Wo.nil)) | ((with_reducible apply Wo.step0)) | (refine WoA.list ?_)) | ((with_reducible show Ox _ _ _ _ _); first | ((with_reducible show Ox _ ⟨some 1, _, _, _, _, _⟩ _ _ _); (refine OxA.boxB ?_; intro b1 w1 hb1 hF1 hg1 hs1)) | ((with_reducible show Ox _ ⟨some 2, _, _, _, _, _⟩ _ _ _); (refine OxA.allocB ?_; intro b2 w2 hb2 hF2 hg2 hs2)) | (refine OxA.load ?_) | (refine OxA.loadAggB ?_) | (refine OxA.storeAggB ?_; intro w1 hb1 hF1 hs1) | (refine OxA.storeB ?_; intro w1 hb1 hF1 hs1)) | ((with_reducible show Wp _ _ _ _ _ _ _); first | ((with_reducible apply Wp.seq)) | ((with_reducible apply Wp.region)) | ((with_reducible apply Wp.skip)) | ((with_reducible apply Wp.ret)) | ((with_reducible apply Wp.block)) | ((with_reducible apply Wp.exit)) | ((with_reducible apply Wp.label))) | ((with_reducible apply thenQ_n)) | ((with_reducible apply thenQ_r)) | ((with_reducible apply thenQ_e)) | ((with_reducible apply RetQ.one); (exact rfl); (conv => lhs; whnf)) | ((with_reducible apply blockQ_n)) | ((with_reducible apply blockQ_r)) | ((with_reducible apply blockQ_here); (exact rfl)) | ((with_reducible apply blockQ_on); (decide)) | (refine RetQB.lone ?_) | (refine RetQB.many ?_))
  all_goals exact ⟨rfl, FrA⟩
theorem plain36_calls (w : World) (h : CpAt w S c vv vr va vl) :
    Calls Try.prog 17 #[cpV c vv vr va vl] w fun e w' => e = .returned (cpV c vv vr va vl) ∧ Fr w w' [] := by
  obtain ⟨⟨av, nv, rfl⟩, ⟨ar, nr, rfl⟩, ⟨aa, na, rfl⟩, ⟨al, nl, rfl⟩⟩ := id h.shape
  refine calls_Wp (args := [_]) Try.func17 rfl Try.ntmps17 (by simp) ?_
  repeat' (first | ((with_reducible show Wo _ _ _ _ _ _ _ _); first | (refine WoA.step ?_) | ((with_reducible apply Wo.nil)) | ((with_reducible apply Wo.step0)) | (refine WoA.list ?_)) | ((with_reducible show Ox _ _ _ _ _); first | ((with_reducible show Ox _ ⟨some 1, _, _, _, _, _⟩ _ _ _); (refine OxA.boxB ?_; intro b1 w1 hb1 hF1 hg1 hs1)) | ((with_reducible show Ox _ ⟨some 2, _, _, _, _, _⟩ _ _ _); (refine OxA.allocB ?_; intro b2 w2 hb2 hF2 hg2 hs2)) | (refine OxA.load ?_) | (refine OxA.loadAggB ?_) | (refine OxA.storeAggB ?_; intro w1 hb1 hF1 hs1) | (refine OxA.storeB ?_; intro w1 hb1 hF1 hs1)) | ((with_reducible show Wp _ _ _ _ _ _ _); first | ((with_reducible apply Wp.seq)) | ((with_reducible apply Wp.region)) | ((with_reducible apply Wp.skip)) | ((with_reducible apply Wp.ret)) | ((with_reducible apply Wp.block)) | ((with_reducible apply Wp.exit)) | ((with_reducible apply Wp.label))) | ((with_reducible apply thenQ_n)) | ((with_reducible apply thenQ_r)) | ((with_reducible apply thenQ_e)) | ((with_reducible apply RetQ.one); (exact rfl); (conv => lhs; whnf)) | ((with_reducible apply blockQ_n)) | ((with_reducible apply blockQ_r)) | ((with_reducible apply blockQ_here); (exact rfl)) | ((with_reducible apply blockQ_on); (decide)) | (refine RetQB.lone ?_) | (refine RetQB.many ?_))
  all_goals exact ⟨rfl, FrA⟩
end
end Go.Proofs.Ythpdpipcfhodoaa
