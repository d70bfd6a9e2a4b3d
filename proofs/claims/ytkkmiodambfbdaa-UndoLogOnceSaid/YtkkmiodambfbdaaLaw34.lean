/- Chapter 34: the fixed examples, both memories, and the size of a log. No condition. -/
import Derived.Test.YtkkmiodambfbdaaUndo5
import Derived.Test.YtkkmiodambfbdaaLaw07
import Derived.Test.YtkkmiodambfbdaaArg
namespace Go.Proofs.Ytkkmiodambfbdaa
open Go.RowKit
set_option linter.unusedSimpArgs false
set_option maxHeartbeats 4000000
set_option linter.unusedVariables false

/-! ### The fixed examples -/
def xM0 : Mem := ⟨List.replicate (60 : Int).toNat 0, false, false, 0, .off, 0⟩
def xM1 : Mem := (xM0.writeBytes 40 (wordL 7)).2
def xL : Lg := ⟨0, 4, 60⟩
def xM2 : Mem := (xL.save xM1 1 40).2
def xM3 : Mem := (xM2.writeBytes 40 (wordL 9)).2
def xM4 : Mem := (xL.rollback xM3 1).2
theorem xf0 (g s : Nat) : fp g s xM0 = [g, s] := rfl
theorem xf1 (g s : Nat) : fp g s xM1 = [g, s] := by unfold fp xM1; rw [Mem.writeBytes_blocks]; rfl
theorem xf2 (g s : Nat) : fp g s xM2 = [g, s] := by unfold fp xM2; rw [Lg.save_blocks]; exact xf1 g s
theorem xf3 (g s : Nat) : fp g s xM3 = [g, s] := by unfold fp xM3; rw [Mem.writeBytes_blocks]; exact xf2 g s
theorem xl1 : xM1.b.length = 60 := by unfold xM1; rw [Mem.writeBytes_len]; rfl
theorem xl2 : xM2.b.length = 60 := by unfold xM2; rw [Lg.save_len]; exact xl1
theorem xe1 : okLog xM1.b.length 0 4 = true := by rw [xl1]; rfl
theorem xe2 : (xL.save xM1 1 40).1 = 0 := by kernel_rfl
theorem xe3 : xM2.b.take 7 = [1, 0, 0, 40, 0, 7, 0] := by kernel_rfl
theorem xe4 : (xL.rollback xM3 1).1 = 0 := by kernel_rfl
theorem xe5 : xM4.readWord 40 = 7 := by kernel_rfl
theorem xe6 : xM4.read 0 = 0 := by kernel_rfl
theorem xs7 : bstr [1, 0, 0, 40, 0, 7, 0] = { data := #[1, 0, 0, 40, 0, 7, 0] } := by kernel_rfl

theorem RdB.takeS {w : World} {S : List Nat} {a : Option Addr} {c n : Nat} {l : List Int} (h : RdB w S (.slice a n c) l) {j : Nat} (hj : j ≤ l.length) : RdB w S (.slice (cutA a 0 c 1) j c) (l.take j) := by
  rw [cutA_0]
  have hn : n = l.length := by obtain ⟨a', c', e, -⟩ := h; cases e; rfl
  subst hn
  exact h.take hj

theorem examples34_calls (w : World) : Calls Try.prog 11 #[] w fun e w' => e = .returned (.bool true) ∧ Fr w w' [] := by
  refine calls_Wp (args := []) Try.func11 rfl Try.ntmps11 (by simp) ?_
  repeat' (first | ((with_reducible show Calls _ _ _ _ _); first | ((with_reducible refine (new2_calls 60 _ (by omega)).mono ?_); rintro e wA (⟨hc, -⟩ | ⟨-, g, s, b0, hg, hs, hb0, -, rfl, hA, hFA⟩); (omega); subst hb0; (replace hA : IsMem wA g s xM0 := hA); (have hgl := hA.fp_lt g (by rw [xf0]; simp)); (have hsl := hA.fp_lt s (by rw [xf0]; simp)); (have hzA := hFA.size); refine ⟨_, rfl, ?_⟩) | ((with_reducible refine (writeWord_calls 40 7 _ hA.k (by omega) (by omega)).mono ?_); (simp only [WPost]); rw [xf0]; rintro e wB ⟨rfl, hB, hFB⟩; (replace hB : IsMem wB g s xM1 := hB); (have hzB := hFB.size); (clear hA); refine ⟨_, rfl, ?_⟩) | ((with_reducible refine (uopen_calls 0 4 _ hB.k (by omega)).mono ?_); rw [xe1]; rintro e wC ⟨hFC, ⟨hc, -⟩ | ⟨-, c, hcc, rfl, hC⟩⟩; (exact absurd hc (by simp)); (have hzC := hFC.size); (replace hC : IsLog wC c g s xL xM1 := by rw [xl1] at hC; exact hC); (clear hB); refine ⟨_, rfl, ?_⟩) | ((with_reducible refine (usave_calls 1 40 _ hC.k (by omega)).mono ?_); rw [xe2, xf1]; rintro e wD ⟨rfl, hD, hFD⟩; (have hzD := hFD.size); (replace hD : IsLog wD c g s xL xM2 := hD); (clear hC); refine ⟨_, rfl, ?_⟩) | ((with_reducible refine (image_calls _ hD.mem.k).mono ?_); rintro e wI ⟨vI, rfl, hfrI⟩; (have hFI := hfrI.2); (have hzI := hFI.size); (have hrI := hfrI.rdb [g, s] (by simp; omega) hD.mem.byt); (obtain ⟨aI, cI, rfl⟩ := id hrI.toV.slice); (have hlI : 7 ≤ cI := by obtain ⟨a', c', e, q, -⟩ := hrI; cases e; exact Nat.le_trans (by decide) q); refine ⟨_, rfl, ?_⟩) | ((with_reducible refine (writeWord_calls 40 9 _ hD.mem.k (by omega) (by omega)).mono ?_); (simp only [WPost]); rw [xf2]; rintro e wE ⟨rfl, hE, hFE⟩; (replace hE : IsMem wE g s xM3 := hE); (have hzE := hFE.size); (have hL : IsLog wE c g s xL xM3 := hD.k.to (by rw [xf2]; exact hFE) hE (by rw [xf2, xf3]) (by unfold xM3; rw [Mem.writeBytes_len])); (clear hD); refine ⟨_, rfl, ?_⟩) | ((with_reducible refine (urollback_calls 1 _ hL.k).mono ?_); rw [xe4, xf3]; rintro e wG ⟨rfl, hG, hFG⟩; (have hzG := hFG.size); (replace hG : IsLog wG c g s xL xM4 := hG); (clear hL); refine ⟨_, rfl, ?_⟩) | ((with_reducible refine (readWord_calls 40 _ hG.mem.k (by omega)).mono ?_); rw [xe5]; rintro e w' ⟨rfl, rfl⟩; refine ⟨_, rfl, ?_⟩) | ((with_reducible refine (read_calls 0 _ hG.mem.k (by omega)).mono ?_); rw [xe6]; rintro e w' ⟨rfl, rfl⟩; refine ⟨_, rfl, ?_⟩)) | ((with_reducible show Wo _ _ _ _ _ _ _ _); first | (refine WoA.step (h := ?_)) | ((with_reducible apply Wo.nil)) | ((with_reducible apply Wo.step0)) | (refine WoA.list (h := ?_)) | (refine WoA.yesT (h := ?_)) | (refine WoA.yesF (h := ?_)) | (refine WoA.noT (h := ?_)) | (refine WoA.noF (h := ?_)) | (refine WoA.noU (h := ?_)) | (refine WoA.yesTo (h := ?_)) | (refine WoA.yesFo (h := ?_)) | (refine WoA.noTo (h := ?_)) | (refine WoA.noFo (h := ?_)) | ((with_reducible apply Wo.part); (exact rfl); (exact rfl); (exact rfl); all_goals (intro hb; (have hb0 := hb; try simp only [decide_eq_true_eq, decide_eq_false_iff_not, Bool.not_eq_true', Bool.not_eq_false', Int.not_lt, Int.not_le, ne_eq, Decidable.not_not] at hb0); (try (exfalso; first | contradiction | omega))))) | ((with_reducible show Ox _ _ _ _ _); first | ((with_reducible apply Ox.sliceH); (exact rfl); (exact rfl); (omega); (omega)) | ((with_reducible apply Ox.b2sB); (conv => lhs; whnf); (exact xe3 ▸ (hrI.takeS (j := 7) (by rw [xl2]; omega)).k); rw [xs7]) | (refine OxA.move (h := ?_)) | (refine OxA.assign (h := ?_)) | (refine OxA.pickT (h := ?_)) | (refine OxA.pickF (h := ?_)) | (refine OxA.pickTo (h := ?_)) | (refine OxA.pickFo (h := ?_)) | (refine OxA.eql (h := ?_)) | (refine OxA.neq (h := ?_)) | (refine OxA.eqlBV (h := ?_)) | (refine OxA.neqBV (h := ?_)) | (refine OxA.eqlB (h := ?_)) | (refine OxA.neqB (h := ?_)) | (refine OxA.convSame (h := ?_); intro w1 hb1 hF1 hs1) | (refine OxA.convI (h := ?_)) | (refine OxA.conv (h := ?_)) | (refine OxA.call1 (h := ?_)) | (refine OxA.call2 (h := ?_)) | (refine OxA.call3 (h := ?_)) | (refine OxA.extract (h := ?_)) | (refine OxA.eqlSN (h := ?_)) | (refine OxA.eqlPN (h := ?_)) | (refine OxA.neqPN (h := ?_)) | (refine OxA.eqlSame (h := ?_)) | ((with_reducible apply Ox.neqSame); (exact rfl); (exact rfl)) | (refine OxA.eqlS (h := ?_)) | (refine OxA.neqS (h := ?_))) | ((with_reducible show Wp _ _ _ _ _ _ _); first | ((with_reducible apply Wp.seq)) | ((with_reducible apply Wp.region)) | ((with_reducible apply Wp.skip)) | ((with_reducible apply Wp.ret)) | (refine WpA.condT (h := ?_)) | (refine WpA.condF (h := ?_)) | (refine WpA.condTo (h := ?_)) | (refine WpA.condFo (h := ?_)) | ((with_reducible apply Wp.cond); (exact rfl); all_goals (intro hb; (have hb0 := hb; try simp only [decide_eq_true_eq, decide_eq_false_iff_not, Bool.not_eq_true', Bool.not_eq_false', Int.not_lt, Int.not_le, ne_eq, Decidable.not_not] at hb0); (try (exfalso; first | contradiction | omega)))) | ((with_reducible apply Wp.block)) | ((with_reducible apply Wp.exit)) | ((with_reducible apply Wp.label))) | ((with_reducible apply thenQ_n)) | ((with_reducible apply thenQ_r)) | ((with_reducible apply thenQ_e)) | ((with_reducible apply RetQ.one); (exact rfl); (conv => lhs; whnf)) | ((with_reducible apply RetQ.two); (exact rfl); (conv => lhs; whnf); (conv => lhs; whnf)) | ((with_reducible apply RetQ.zero); (exact rfl)) | ((with_reducible apply RetQ.zeroE); (exact rfl)) | ((with_reducible apply RetQ.three); (exact rfl); (conv => lhs; whnf); (conv => lhs; whnf); (conv => lhs; whnf)) | ((with_reducible apply blockQ_n)) | ((with_reducible apply blockQ_r)) | ((with_reducible apply blockQ_here); (exact rfl)) | ((with_reducible apply blockQ_on); (decide)))
  all_goals exact ⟨by simp, FrA⟩
end Go.Proofs.Ytkkmiodambfbdaa
