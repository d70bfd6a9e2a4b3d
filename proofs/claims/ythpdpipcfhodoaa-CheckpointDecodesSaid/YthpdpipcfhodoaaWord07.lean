/- The reference word as bytes. No condition. -/
import Derived.Test.YthpdpipcfhodoaaOwn07
namespace Go.Proofs.Ythpdpipcfhodoaa
open Go.RowKit
set_option linter.unusedSimpArgs false
set_option maxHeartbeats 4000000
set_option linter.unusedVariables false

theorem rword_calls (x : Int) (w : World) (hx : -32768 ≤ x ∧ x ≤ 32767) :
    Calls Try.prog 25 #[.int .i16 x] w fun e w' => ∃ v, e = .returned v ∧ Fresh w w' v (wordL x) := by
  have hu : 0 ≤ IntKind.u16.wrap x ∧ IntKind.u16.wrap x ≤ 65535 := by rw [IntKind.wrap_u16]; omega
  refine calls_Wp (args := [_]) Try.func25 rfl Try.ntmps25 (by simp) ?_
  repeat' (first | ((with_reducible show Wo _ _ _ _ _ _ _ _); first | (refine WoA.step ?_) | ((with_reducible apply Wo.nil)) | ((with_reducible apply Wo.step0)) | (refine WoA.list ?_)) | ((with_reducible show Ox _ _ _ _ _); first | (refine OxA.move ?_) | (refine OxA.assign ?_) | (refine OxA.convSame ?_; intro w1 hb1 hF1 hs1) | (refine OxA.convI ?_) | (refine OxA.conv ?_) | (refine OxA.shrC ?_) | ((with_reducible apply Ox.bs0); intro b1 w1 hb1 hF1 hg1 hs1) | (refine OxA.bs1 ?_; intro b1 w1 hb1 hF1 hg1 hs1) | (refine OxA.bs2 ?_; intro b1 w1 hb1 hF1 hg1 hs1) | (refine OxB.bsE ?_; intro b1 w1 hb1 hF1 hg1 hs1)) | ((with_reducible show Wp _ _ _ _ _ _ _); first | ((with_reducible apply Wp.seq)) | ((with_reducible apply Wp.region)) | ((with_reducible apply Wp.skip)) | ((with_reducible apply Wp.ret)) | ((with_reducible apply Wp.block)) | ((with_reducible apply Wp.exit)) | ((with_reducible apply Wp.label))) | ((with_reducible apply thenQ_n)) | ((with_reducible apply thenQ_r)) | ((with_reducible apply thenQ_e)) | ((with_reducible apply RetQ.one); (exact rfl); (conv => lhs; whnf)) | ((with_reducible apply blockQ_n)) | ((with_reducible apply blockQ_r)) | ((with_reducible apply blockQ_here); (exact rfl)) | ((with_reducible apply blockQ_on); (decide)))
  refine ⟨_, rfl, ⟨rfl, .inr ⟨b1, 2, _, rfl, by omega, hb1, Nat.le_refl _, by unfold maxLen; omega, rfl, ?_⟩⟩, hF1⟩
  have e1 : IntKind.u8.wrap (IntKind.u16.wrap x) = IntKind.u8.wrap x := by rw [IntKind.wrap_u8, IntKind.wrap_u8, IntKind.wrap_u16]; omega
  have e2 : (2 : Int) ^ Int.toNat 8 = 256 := by decide
  simp [wordL, e1, e2]
end Go.Proofs.Ythpdpipcfhodoaa
