/- The checksum CRC-16: the program's register, the reference's, and that they agree. Conditions: short rows of bytes. -/
import Derived.Test.YtlaodoakiijjnaaRow
import Derived.Test.YtlaodoakiijjnaaDrawL
import Derived.Test.YtlaodoakiijjnaaRet
namespace Go.Proofs.Ytlaodoakiijjnaa
open Go.RowKit
set_option linter.unusedSimpArgs false
set_option maxHeartbeats 4000000
set_option linter.unusedVariables false

theorem Ox.xorC {P : Program} {d : Option Nat} {ty : TypeId} {pos : String} {aft : Array Edge} {g : Option (Nat × Bool)} {ρ : Env} {w : World} {K : Value → World → Prop} {T T' : Nat} {x y : Operand} {k : IntKind} {a b : Int} (hx : ev ρ x = .int k a) (hy : ev ρ y = .int k b) (h : K (.int k (bits .xor k a b)) w) : Ox P ⟨d, .binOp .xor T x y T', ty, pos, aft, g⟩ ρ w K := by
  simpa [Ox, execOp, hx, hy, go_sem, eqGuard, binOp] using h
/-- One step of the register. -/
def crc1 (s : Int) : Int := if s / 32768 = 1 then bits .xor .u16 (IntKind.u16.wrap (s * 2)) 4129 else IntKind.u16.wrap (s * 2)
def crcN : Nat → Int → Int
  | 0, s => s
  | n + 1, s => crc1 (crcN n s)
def crcB (s c : Int) : Int := crcN 8 (bits .xor .u16 s (IntKind.u16.wrap (IntKind.u16.wrap c * 256)))
def crcU (s : Int) (l : List Int) : Int := l.foldl crcB s
theorem crcU_snoc {s : Int} {l : List Int} {k : Nat} (h : k < l.length) : crcU s (l.take (k + 1)) = crcB (crcU s (l.take k)) (l.getD k 0) := by
  unfold crcU
  rw [List.take_add_one, List.getElem?_eq_getElem h, List.foldl_append, List.getD_eq_getElem?_getD, List.getElem?_eq_getElem h]; rfl
theorem crcUpd_calls (s : Int) {v : Value} {l : List Int} {S : List Nat} (w : World) (h : RdB w S v l) (hl : l.length ≤ 140737488351232) :
    Calls Try.prog 49 #[.int .u16 s, v] w fun e w' => e = .returned (.int .u16 (crcU s l)) ∧ Fr w w' [] := by
  obtain ⟨a, c, rfl⟩ := id h.toV.slice
  refine calls_Wp (args := [_, _]) Try.func49 rfl Try.ntmps49 (by simp) ?_
  repeat' (first | ((with_reducible show Wo _ _ _ _ _ _ _ _); first | (refine WoA.step ?_) | ((with_reducible apply Wo.nil)) | ((with_reducible apply Wo.step0)) | (refine WoA.list ?_)) | ((with_reducible show Ox _ _ _ _ _); first | (refine OxA.move ?_) | (refine OxA.load ?_) | (refine OxA.assign ?_) | (refine OxA.add' ?_) | (refine OxA.add ?_) | (refine OxA.lss ?_) | (refine OxA.eql ?_) | (refine OxA.loadAggB ?_) | (refine OxA.eqlBV ?_) | (refine OxA.eqlB ?_) | (refine OxA.len ?_) | (refine OxA.convSame ?_; intro w1 hb1 hF1 hs1) | (refine OxA.convI ?_) | (refine OxA.conv ?_) | (refine OxA.indexAddr1 ?_) | ((with_reducible apply Ox.indexAddrN); (exact rfl); (exact rfl); (omega); (omega); (first | (conv => lhs; simp only [Nat.zero_add, Int.toNat_natCast]) | exact rfl)) | (refine OxA.indexAddr ?_) | (refine OxA.shrC ?_) | (refine OxA.shlC ?_) | (refine OxA.eqlSame ?_) | (refine OxA.eqlS ?_) | (refine OxA.lenS ?_)) | ((with_reducible show Wp _ _ _ _ _ _ _); first | ((with_reducible apply Wp.seq)) | ((with_reducible apply Wp.region)) | ((with_reducible apply Wp.skip)) | ((with_reducible apply Wp.ret)) | (refine WpA.condT ?_) | (refine WpA.condF ?_) | (refine WpA.condTo ?_) | (refine WpA.condFo ?_) | ((with_reducible apply Wp.cond); (exact rfl); all_goals (intro hb; (have hb0 := hb; try simp only [decide_eq_true_eq, decide_eq_false_iff_not, Bool.not_eq_true', Bool.not_eq_false', Int.not_lt, Int.not_le, ne_eq, Decidable.not_not] at hb0); (try (exfalso; first | contradiction | omega)))) | ((with_reducible apply Wp.block)) | ((with_reducible apply Wp.exit)) | ((with_reducible apply Wp.label))) | ((with_reducible apply thenQ_n)) | ((with_reducible apply thenQ_r)) | ((with_reducible apply thenQ_e)) | ((with_reducible apply RetQ.one); (exact rfl); (conv => lhs; whnf)) | ((with_reducible apply blockQ_n)) | ((with_reducible apply blockQ_r)) | ((with_reducible apply blockQ_here); (exact rfl)) | ((with_reducible apply blockQ_on); (decide)))
  refine Wp.loop (fun m ρ w1 => ∃ (k : Nat), m = l.length - k ∧ k ≤ l.length ∧ ρ 0 = .int .u16 (crcU s (l.take k)) ∧ ρ 8 = .slice a l.length c ∧ ρ 9 = .int .i64 l.length ∧ ρ 10 = .int .i64 k ∧ Fr w w1 []) l.length ⟨0, rfl, Nat.zero_le _, rfl, rfl, rfl, rfl, FrA⟩ ?_
  rintro m ρ w1 ⟨k, rfl, hk, s0, s8, s9, s10, hF⟩
  have hz := hF.size
  by_cases hlt : k < l.length
  · obtain ⟨b, o, c', he, -⟩ := h.toV.open (by omega)
    cases he
    have hck := fun (w' : World) (hf : Fr w w' S) => h.cellA hlt hf
    have hs := crcU_snoc (s := s) hlt
    have hp8 : (2 : Int) ^ (8 : Int).toNat = 256 := rfl
    have hp1 : (2 : Int) ^ (1 : Int).toNat = 2 := rfl
    have hp15 : (2 : Int) ^ (15 : Int).toNat = 32768 := rfl
    generalize l.getD k 0 = x at hck hs
    unfold crcB at hs
    refine Wp.keep (t := 0) s0 (Wp.keep (t := 8) s8 (Wp.keep (t := 9) s9 (Wp.keep (t := 10) s10 (?_))))
    repeat' (first | ((with_reducible show Wo _ _ _ _ _ _ _ _); first | (refine WoA.step ?_) | ((with_reducible apply Wo.nil)) | ((with_reducible apply Wo.step0)) | (refine WoA.list ?_)) | ((with_reducible show Ox _ _ _ _ _); first | ((with_reducible apply Ox.load); (exact rfl); (exact hck _ (Fr.mono (S := []) FrA (by simp)))) | ((with_reducible apply Ox.shlC); (exact rfl); (exact rfl); (decide); (decide); rw [hp8]) | ((with_reducible apply Ox.xorC); (exact rfl); (exact rfl)) | (refine OxA.move ?_) | (refine OxA.load ?_) | (refine OxA.assign ?_) | (refine OxA.add' ?_) | (refine OxA.add ?_) | (refine OxA.lss ?_) | (refine OxA.eql ?_) | (refine OxA.loadAggB ?_) | (refine OxA.eqlBV ?_) | (refine OxA.eqlB ?_) | (refine OxA.len ?_) | (refine OxA.convSame ?_; intro w1 hb1 hF1 hs1) | (refine OxA.convI ?_) | (refine OxA.conv ?_) | (refine OxA.indexAddr1 ?_) | ((with_reducible apply Ox.indexAddrN); (exact rfl); (exact rfl); (omega); (omega); (first | (conv => lhs; simp only [Nat.zero_add, Int.toNat_natCast]) | exact rfl)) | (refine OxA.indexAddr ?_) | (refine OxA.shrC ?_) | (refine OxA.shlC ?_) | (refine OxA.eqlSame ?_) | (refine OxA.eqlS ?_) | (refine OxA.lenS ?_)) | ((with_reducible show Wp _ _ _ _ _ _ _); first | ((with_reducible apply Wp.seq)) | ((with_reducible apply Wp.region)) | ((with_reducible apply Wp.skip)) | ((with_reducible apply Wp.ret)) | (refine WpA.condT ?_) | (refine WpA.condF ?_) | (refine WpA.condTo ?_) | (refine WpA.condFo ?_) | ((with_reducible apply Wp.cond); (exact rfl); all_goals (intro hb; (have hb0 := hb; try simp only [decide_eq_true_eq, decide_eq_false_iff_not, Bool.not_eq_true', Bool.not_eq_false', Int.not_lt, Int.not_le, ne_eq, Decidable.not_not] at hb0); (try (exfalso; first | contradiction | omega)))) | ((with_reducible apply Wp.block)) | ((with_reducible apply Wp.exit)) | ((with_reducible apply Wp.label))) | ((with_reducible apply thenQ_n)) | ((with_reducible apply thenQ_r)) | ((with_reducible apply thenQ_e)) | ((with_reducible apply RetQ.one); (exact rfl); (conv => lhs; whnf)) | ((with_reducible apply blockQ_n)) | ((with_reducible apply blockQ_r)) | ((with_reducible apply blockQ_here); (exact rfl)) | ((with_reducible apply blockQ_on); (decide)))
    generalize bits .xor .u16 (crcU s (l.take k)) (IntKind.u16.wrap (IntKind.u16.wrap x * 256)) = X at hs
    refine Wp.loop (fun m ρ w2 => ∃ (j : Nat), m = 8 - j ∧ j ≤ 8 ∧ ρ 0 = .int .u16 (crcN j X) ∧ ρ 8 = .slice (some ⟨b, o, none⟩) l.length c ∧ ρ 9 = .int .i64 l.length ∧ ρ 10 = .int .i64 k ∧ ρ 19 = .int .i64 j ∧ Fr w w2 []) 8 ⟨0, rfl, by omega, rfl, rfl, rfl, rfl, rfl, FrA⟩ ?_
    clear s0 s8 s9 s10
    rintro m ρ w2 ⟨j, rfl, hj, s0, s8, s9, s10, s19, hF2⟩
    have hz2 := hF2.size
    refine Wp.keep (t := 0) s0 (Wp.keep (t := 8) s8 (Wp.keep (t := 9) s9 (Wp.keep (t := 10) s10 (Wp.keep (t := 19) s19 (?_)))))
    by_cases hj8 : j < 8
    · by_cases ht : crcN j X / 32768 = 1
      · have e1 : bits .xor .u16 (IntKind.u16.wrap (crcN j X * 2)) 4129 = crcN (j + 1) X := by
          show _ = crc1 _
          unfold crc1
          rw [if_pos ht]
        repeat' (first | ((with_reducible show Wo _ _ _ _ _ _ _ _); first | (refine WoA.step ?_) | ((with_reducible apply Wo.nil)) | ((with_reducible apply Wo.step0)) | (refine WoA.list ?_)) | ((with_reducible show Ox _ _ _ _ _); first | ((with_reducible apply Ox.shrC); (exact rfl); (exact rfl); (decide); (decide); rw [hp15]) | ((with_reducible apply Ox.shlC); (exact rfl); (exact rfl); (decide); (decide); rw [hp1]) | ((with_reducible apply Ox.xorC); (exact rfl); (exact rfl); rw [e1]) | (refine OxA.move ?_) | (refine OxA.load ?_) | (refine OxA.assign ?_) | (refine OxA.add' ?_) | (refine OxA.add ?_) | (refine OxA.lss ?_) | (refine OxA.eql ?_) | (refine OxA.loadAggB ?_) | (refine OxA.eqlBV ?_) | (refine OxA.eqlB ?_) | (refine OxA.len ?_) | (refine OxA.convSame ?_; intro w1 hb1 hF1 hs1) | (refine OxA.convI ?_) | (refine OxA.conv ?_) | (refine OxA.indexAddr1 ?_) | ((with_reducible apply Ox.indexAddrN); (exact rfl); (exact rfl); (omega); (omega); (first | (conv => lhs; simp only [Nat.zero_add, Int.toNat_natCast]) | exact rfl)) | (refine OxA.indexAddr ?_) | (refine OxA.shrC ?_) | (refine OxA.shlC ?_) | (refine OxA.eqlSame ?_) | (refine OxA.eqlS ?_) | (refine OxA.lenS ?_)) | ((with_reducible show Wp _ _ _ _ _ _ _); first | ((with_reducible apply Wp.seq)) | ((with_reducible apply Wp.region)) | ((with_reducible apply Wp.skip)) | ((with_reducible apply Wp.ret)) | (refine WpA.condT ?_) | (refine WpA.condF ?_) | (refine WpA.condTo ?_) | (refine WpA.condFo ?_) | ((with_reducible apply Wp.cond); (exact rfl); all_goals (intro hb; (have hb0 := hb; try simp only [decide_eq_true_eq, decide_eq_false_iff_not, Bool.not_eq_true', Bool.not_eq_false', Int.not_lt, Int.not_le, ne_eq, Decidable.not_not] at hb0); (try (exfalso; first | contradiction | omega)))) | ((with_reducible apply Wp.block)) | ((with_reducible apply Wp.exit)) | ((with_reducible apply Wp.label))) | ((with_reducible apply thenQ_n)) | ((with_reducible apply thenQ_r)) | ((with_reducible apply thenQ_e)) | ((with_reducible apply RetQ.one); (exact rfl); (conv => lhs; whnf)) | ((with_reducible apply blockQ_n)) | ((with_reducible apply blockQ_r)) | ((with_reducible apply blockQ_here); (exact rfl)) | ((with_reducible apply blockQ_on); (decide)))
        all_goals exact ⟨8 - (j + 1), by omega, j + 1, rfl, by omega, rfl, rfl, rfl, rfl, rfl, FrA⟩
      · have e1 : IntKind.u16.wrap (crcN j X * 2) = crcN (j + 1) X := by
          show _ = crc1 _
          unfold crc1
          rw [if_neg ht]
        repeat' (first | ((with_reducible show Wo _ _ _ _ _ _ _ _); first | (refine WoA.step ?_) | ((with_reducible apply Wo.nil)) | ((with_reducible apply Wo.step0)) | (refine WoA.list ?_)) | ((with_reducible show Ox _ _ _ _ _); first | ((with_reducible apply Ox.shrC); (exact rfl); (exact rfl); (decide); (decide); rw [hp15]) | ((with_reducible apply Ox.shlC); (exact rfl); (exact rfl); (decide); (decide); rw [hp1, e1]) | (refine OxA.move ?_) | (refine OxA.load ?_) | (refine OxA.assign ?_) | (refine OxA.add' ?_) | (refine OxA.add ?_) | (refine OxA.lss ?_) | (refine OxA.eql ?_) | (refine OxA.loadAggB ?_) | (refine OxA.eqlBV ?_) | (refine OxA.eqlB ?_) | (refine OxA.len ?_) | (refine OxA.convSame ?_; intro w1 hb1 hF1 hs1) | (refine OxA.convI ?_) | (refine OxA.conv ?_) | (refine OxA.indexAddr1 ?_) | ((with_reducible apply Ox.indexAddrN); (exact rfl); (exact rfl); (omega); (omega); (first | (conv => lhs; simp only [Nat.zero_add, Int.toNat_natCast]) | exact rfl)) | (refine OxA.indexAddr ?_) | (refine OxA.shrC ?_) | (refine OxA.shlC ?_) | (refine OxA.eqlSame ?_) | (refine OxA.eqlS ?_) | (refine OxA.lenS ?_)) | ((with_reducible show Wp _ _ _ _ _ _ _); first | ((with_reducible apply Wp.seq)) | ((with_reducible apply Wp.region)) | ((with_reducible apply Wp.skip)) | ((with_reducible apply Wp.ret)) | (refine WpA.condT ?_) | (refine WpA.condF ?_) | (refine WpA.condTo ?_) | (refine WpA.condFo ?_) | ((with_reducible apply Wp.cond); (exact rfl); all_goals (intro hb; (have hb0 := hb; try simp only [decide_eq_true_eq, decide_eq_false_iff_not, Bool.not_eq_true', Bool.not_eq_false', Int.not_lt, Int.not_le, ne_eq, Decidable.not_not] at hb0); (try (exfalso; first | contradiction | omega)))) | ((with_reducible apply Wp.block)) | ((with_reducible apply Wp.exit)) | ((with_reducible apply Wp.label))) | ((with_reducible apply thenQ_n)) | ((with_reducible apply thenQ_r)) | ((with_reducible apply thenQ_e)) | ((with_reducible apply RetQ.one); (exact rfl); (conv => lhs; whnf)) | ((with_reducible apply blockQ_n)) | ((with_reducible apply blockQ_r)) | ((with_reducible apply blockQ_here); (exact rfl)) | ((with_reducible apply blockQ_on); (decide)))
        all_goals exact ⟨8 - (j + 1), by omega, j + 1, rfl, by omega, rfl, rfl, rfl, rfl, rfl, FrA⟩
    · obtain rfl : j = 8 := by omega
      rw [← hs] at s0 ⊢
      repeat' (first | ((with_reducible show Wo _ _ _ _ _ _ _ _); first | (refine WoA.step ?_) | ((with_reducible apply Wo.nil)) | ((with_reducible apply Wo.step0)) | (refine WoA.list ?_)) | ((with_reducible show Ox _ _ _ _ _); first | (refine OxA.move ?_) | (refine OxA.load ?_) | (refine OxA.assign ?_) | (refine OxA.add' ?_) | (refine OxA.add ?_) | (refine OxA.lss ?_) | (refine OxA.eql ?_) | (refine OxA.loadAggB ?_) | (refine OxA.eqlBV ?_) | (refine OxA.eqlB ?_) | (refine OxA.len ?_) | (refine OxA.convSame ?_; intro w1 hb1 hF1 hs1) | (refine OxA.convI ?_) | (refine OxA.conv ?_) | (refine OxA.indexAddr1 ?_) | ((with_reducible apply Ox.indexAddrN); (exact rfl); (exact rfl); (omega); (omega); (first | (conv => lhs; simp only [Nat.zero_add, Int.toNat_natCast]) | exact rfl)) | (refine OxA.indexAddr ?_) | (refine OxA.shrC ?_) | (refine OxA.shlC ?_) | (refine OxA.eqlSame ?_) | (refine OxA.eqlS ?_) | (refine OxA.lenS ?_)) | ((with_reducible show Wp _ _ _ _ _ _ _); first | ((with_reducible apply Wp.seq)) | ((with_reducible apply Wp.region)) | ((with_reducible apply Wp.skip)) | ((with_reducible apply Wp.ret)) | (refine WpA.condT ?_) | (refine WpA.condF ?_) | (refine WpA.condTo ?_) | (refine WpA.condFo ?_) | ((with_reducible apply Wp.cond); (exact rfl); all_goals (intro hb; (have hb0 := hb; try simp only [decide_eq_true_eq, decide_eq_false_iff_not, Bool.not_eq_true', Bool.not_eq_false', Int.not_lt, Int.not_le, ne_eq, Decidable.not_not] at hb0); (try (exfalso; first | contradiction | omega)))) | ((with_reducible apply Wp.block)) | ((with_reducible apply Wp.exit)) | ((with_reducible apply Wp.label))) | ((with_reducible apply thenQ_n)) | ((with_reducible apply thenQ_r)) | ((with_reducible apply thenQ_e)) | ((with_reducible apply RetQ.one); (exact rfl); (conv => lhs; whnf)) | ((with_reducible apply blockQ_n)) | ((with_reducible apply blockQ_r)) | ((with_reducible apply blockQ_here); (exact rfl)) | ((with_reducible apply blockQ_on); (decide)))
      all_goals exact ⟨l.length - (k + 1), by omega, k + 1, rfl, by omega, rfl, rfl, rfl, rfl, FrA⟩
  · obtain rfl : k = l.length := by omega
    rw [List.take_length] at s0
    refine Wp.keep (t := 0) s0 (Wp.keep (t := 8) s8 (Wp.keep (t := 9) s9 (Wp.keep (t := 10) s10 (?_))))
    repeat' (first | ((with_reducible show Wo _ _ _ _ _ _ _ _); first | (refine WoA.step ?_) | ((with_reducible apply Wo.nil)) | ((with_reducible apply Wo.step0)) | (refine WoA.list ?_)) | ((with_reducible show Ox _ _ _ _ _); first | (refine OxA.move ?_) | (refine OxA.load ?_) | (refine OxA.assign ?_) | (refine OxA.add' ?_) | (refine OxA.add ?_) | (refine OxA.lss ?_) | (refine OxA.eql ?_) | (refine OxA.loadAggB ?_) | (refine OxA.eqlBV ?_) | (refine OxA.eqlB ?_) | (refine OxA.len ?_) | (refine OxA.convSame ?_; intro w1 hb1 hF1 hs1) | (refine OxA.convI ?_) | (refine OxA.conv ?_) | (refine OxA.indexAddr1 ?_) | ((with_reducible apply Ox.indexAddrN); (exact rfl); (exact rfl); (omega); (omega); (first | (conv => lhs; simp only [Nat.zero_add, Int.toNat_natCast]) | exact rfl)) | (refine OxA.indexAddr ?_) | (refine OxA.shrC ?_) | (refine OxA.shlC ?_) | (refine OxA.eqlSame ?_) | (refine OxA.eqlS ?_) | (refine OxA.lenS ?_)) | ((with_reducible show Wp _ _ _ _ _ _ _); first | ((with_reducible apply Wp.seq)) | ((with_reducible apply Wp.region)) | ((with_reducible apply Wp.skip)) | ((with_reducible apply Wp.ret)) | (refine WpA.condT ?_) | (refine WpA.condF ?_) | (refine WpA.condTo ?_) | (refine WpA.condFo ?_) | ((with_reducible apply Wp.cond); (exact rfl); all_goals (intro hb; (have hb0 := hb; try simp only [decide_eq_true_eq, decide_eq_false_iff_not, Bool.not_eq_true', Bool.not_eq_false', Int.not_lt, Int.not_le, ne_eq, Decidable.not_not] at hb0); (try (exfalso; first | contradiction | omega)))) | ((with_reducible apply Wp.block)) | ((with_reducible apply Wp.exit)) | ((with_reducible apply Wp.label))) | ((with_reducible apply thenQ_n)) | ((with_reducible apply thenQ_r)) | ((with_reducible apply thenQ_e)) | ((with_reducible apply RetQ.one); (exact rfl); (conv => lhs; whnf)) | ((with_reducible apply blockQ_n)) | ((with_reducible apply blockQ_r)) | ((with_reducible apply blockQ_here); (exact rfl)) | ((with_reducible apply blockQ_on); (decide)))
    all_goals exact ⟨rfl, FrA⟩
theorem crcSum_calls {v : Value} {l : List Int} {S : List Nat} (w : World) (h : RdB w S v l) (hl : l.length ≤ 140737488351232) :
    Calls Try.prog 35 #[v] w fun e w' => e = .returned (.int .u16 (crcU 65535 l)) ∧ Fr w w' [] := by
  obtain ⟨a, c, rfl⟩ := id h.toV.slice
  refine calls_Wp (args := [_]) Try.func35 rfl Try.ntmps35 (by simp) ?_
  repeat' (first | ((with_reducible show Calls _ _ _ _ _); first | ((with_reducible refine (crcUpd_calls 65535 _ h.k hl).mono ?_); rintro e wC ⟨rfl, hFC⟩; (have hzC := hFC.size); refine ⟨_, rfl, ?_⟩)) | ((with_reducible show Wo _ _ _ _ _ _ _ _); first | (refine WoA.step ?_) | ((with_reducible apply Wo.nil)) | ((with_reducible apply Wo.step0)) | (refine WoA.list ?_)) | ((with_reducible show Ox _ _ _ _ _); first | (refine OxA.move ?_) | (refine OxA.assign ?_) | (refine OxA.call2 ?_)) | ((with_reducible show Wp _ _ _ _ _ _ _); first | ((with_reducible apply Wp.seq)) | ((with_reducible apply Wp.region)) | ((with_reducible apply Wp.skip)) | ((with_reducible apply Wp.ret)) | ((with_reducible apply Wp.block)) | ((with_reducible apply Wp.exit)) | ((with_reducible apply Wp.label))) | ((with_reducible apply thenQ_n)) | ((with_reducible apply thenQ_r)) | ((with_reducible apply thenQ_e)) | ((with_reducible apply RetQ.one); (exact rfl); (conv => lhs; whnf)) | ((with_reducible apply blockQ_n)) | ((with_reducible apply blockQ_r)) | ((with_reducible apply blockQ_here); (exact rfl)) | ((with_reducible apply blockQ_on); (decide)))
  all_goals exact ⟨rfl, FrA⟩
/-! ### The reference's -/
def rbit (s b : Int) : Int := if IntKind.u8.wrap (s / 32768) = b then IntKind.u16.wrap (s * 2) else bits .xor .u16 (IntKind.u16.wrap (s * 2)) 4129
def rcrcN (s c : Int) : Nat → Int
  | 0 => s
  | n + 1 => rbit (rcrcN s c n) ((c / 2 ^ (7 - n)).tmod 2)
def rcrcU (s : Int) (l : List Int) : Int := l.foldl (fun s c => rcrcN s c 8) s
theorem rcrcU_snoc {s : Int} {l : List Int} {k : Nat} (h : k < l.length) : rcrcU s (l.take (k + 1)) = rcrcN (rcrcU s (l.take k)) (l.getD k 0) 8 := by
  unfold rcrcU
  rw [List.take_add_one, List.getElem?_eq_getElem h, List.foldl_append, List.getD_eq_getElem?_getD, List.getElem?_eq_getElem h]; rfl
theorem rbit_calls (s b : Int) (w : World) : Calls Try.prog 86 #[.int .u16 s, .int .u8 b] w fun e w' => e = .returned (.int .u16 (rbit s b)) ∧ w = w' := by
  have hp1 : (2 : Int) ^ (1 : Int).toNat = 2 := rfl
  have hp15 : (2 : Int) ^ (15 : Int).toNat = 32768 := rfl
  unfold rbit
  by_cases ht : IntKind.u8.wrap (s / 32768) = b
  · rw [if_pos ht]
    refine calls_Wp (args := [_, _]) Try.func86 rfl Try.ntmps86 (by simp) ?_
    repeat' (first | ((with_reducible show Wo _ _ _ _ _ _ _ _); first | (refine WoA.step ?_) | ((with_reducible apply Wo.nil)) | ((with_reducible apply Wo.step0)) | (refine WoA.list ?_)) | ((with_reducible show Ox _ _ _ _ _); first | ((with_reducible apply Ox.shrC); (exact rfl); (exact rfl); (decide); (decide); rw [hp15]) | ((with_reducible apply Ox.shlC); (exact rfl); (exact rfl); (decide); (decide); rw [hp1]) | ((with_reducible apply Ox.xorC); (exact rfl); (exact rfl)) | (refine OxA.move ?_) | (refine OxA.assign ?_) | (refine OxA.neq ?_) | (refine OxA.neqBV ?_) | (refine OxA.neqB ?_) | (refine OxA.convSame ?_; intro w1 hb1 hF1 hs1) | (refine OxA.convI ?_) | (refine OxA.conv ?_) | (refine OxA.shrC ?_) | (refine OxA.shlC ?_) | ((with_reducible apply Ox.neqSame); (exact rfl); (exact rfl)) | (refine OxA.neqS ?_)) | ((with_reducible show Wp _ _ _ _ _ _ _); first | ((with_reducible apply Wp.seq)) | ((with_reducible apply Wp.region)) | ((with_reducible apply Wp.skip)) | ((with_reducible apply Wp.ret)) | (refine WpA.condT ?_) | (refine WpA.condF ?_) | (refine WpA.condTo ?_) | (refine WpA.condFo ?_) | ((with_reducible apply Wp.cond); (exact rfl); all_goals (intro hb; (have hb0 := hb; try simp only [decide_eq_true_eq, decide_eq_false_iff_not, Bool.not_eq_true', Bool.not_eq_false', Int.not_lt, Int.not_le, ne_eq, Decidable.not_not] at hb0); (try (exfalso; first | contradiction | omega)))) | ((with_reducible apply Wp.block)) | ((with_reducible apply Wp.exit)) | ((with_reducible apply Wp.label))) | ((with_reducible apply thenQ_n)) | ((with_reducible apply thenQ_r)) | ((with_reducible apply thenQ_e)) | ((with_reducible apply RetQ.one); (exact rfl); (conv => lhs; whnf)) | ((with_reducible apply blockQ_n)) | ((with_reducible apply blockQ_r)) | ((with_reducible apply blockQ_here); (exact rfl)) | ((with_reducible apply blockQ_on); (decide)))
    all_goals exact ⟨rfl, rfl⟩
  · rw [if_neg ht]
    refine calls_Wp (args := [_, _]) Try.func86 rfl Try.ntmps86 (by simp) ?_
    repeat' (first | ((with_reducible show Wo _ _ _ _ _ _ _ _); first | (refine WoA.step ?_) | ((with_reducible apply Wo.nil)) | ((with_reducible apply Wo.step0)) | (refine WoA.list ?_)) | ((with_reducible show Ox _ _ _ _ _); first | ((with_reducible apply Ox.shrC); (exact rfl); (exact rfl); (decide); (decide); rw [hp15]) | ((with_reducible apply Ox.shlC); (exact rfl); (exact rfl); (decide); (decide); rw [hp1]) | ((with_reducible apply Ox.xorC); (exact rfl); (exact rfl)) | (refine OxA.move ?_) | (refine OxA.assign ?_) | (refine OxA.neq ?_) | (refine OxA.neqBV ?_) | (refine OxA.neqB ?_) | (refine OxA.convSame ?_; intro w1 hb1 hF1 hs1) | (refine OxA.convI ?_) | (refine OxA.conv ?_) | (refine OxA.shrC ?_) | (refine OxA.shlC ?_) | ((with_reducible apply Ox.neqSame); (exact rfl); (exact rfl)) | (refine OxA.neqS ?_)) | ((with_reducible show Wp _ _ _ _ _ _ _); first | ((with_reducible apply Wp.seq)) | ((with_reducible apply Wp.region)) | ((with_reducible apply Wp.skip)) | ((with_reducible apply Wp.ret)) | (refine WpA.condT ?_) | (refine WpA.condF ?_) | (refine WpA.condTo ?_) | (refine WpA.condFo ?_) | ((with_reducible apply Wp.cond); (exact rfl); all_goals (intro hb; (have hb0 := hb; try simp only [decide_eq_true_eq, decide_eq_false_iff_not, Bool.not_eq_true', Bool.not_eq_false', Int.not_lt, Int.not_le, ne_eq, Decidable.not_not] at hb0); (try (exfalso; first | contradiction | omega)))) | ((with_reducible apply Wp.block)) | ((with_reducible apply Wp.exit)) | ((with_reducible apply Wp.label))) | ((with_reducible apply thenQ_n)) | ((with_reducible apply thenQ_r)) | ((with_reducible apply thenQ_e)) | ((with_reducible apply RetQ.one); (exact rfl); (conv => lhs; whnf)) | ((with_reducible apply blockQ_n)) | ((with_reducible apply blockQ_r)) | ((with_reducible apply blockQ_here); (exact rfl)) | ((with_reducible apply blockQ_on); (decide)))
    all_goals exact ⟨rfl, rfl⟩
theorem rcrcUpd_calls (s : Int) {v : Value} {l : List Int} {S : List Nat} (w : World) (h : RdB w S v l) (hl : l.length ≤ 140737488351232) :
    Calls Try.prog 79 #[.int .u16 s, v] w fun e w' => e = .returned (.int .u16 (rcrcU s l)) ∧ Fr w w' [] := by
  obtain ⟨a, c, rfl⟩ := id h.toV.slice
  refine calls_Wp (args := [_, _]) Try.func79 rfl Try.ntmps79 (by simp) ?_
  repeat' (first | ((with_reducible show Wo _ _ _ _ _ _ _ _); first | (refine WoA.step ?_) | ((with_reducible apply Wo.nil)) | ((with_reducible apply Wo.step0)) | (refine WoA.list ?_)) | ((with_reducible show Ox _ _ _ _ _); first | (refine OxA.move ?_) | (refine OxA.load ?_) | (refine OxA.assign ?_) | (refine OxA.add' ?_) | (refine OxA.sub' ?_) | (refine OxA.add ?_) | (refine OxA.sub ?_) | (refine OxA.lss ?_) | (refine OxA.geq ?_) | (refine OxA.loadAggB ?_) | (refine OxA.len ?_) | (refine OxA.call2 ?_) | (refine OxA.indexAddr1 ?_) | ((with_reducible apply Ox.indexAddrN); (exact rfl); (exact rfl); (omega); (omega); (first | (conv => lhs; simp only [Nat.zero_add, Int.toNat_natCast]) | exact rfl)) | (refine OxA.indexAddr ?_) | (refine OxA.shrC ?_) | (refine OxA.lenS ?_)) | ((with_reducible show Wp _ _ _ _ _ _ _); first | ((with_reducible apply Wp.seq)) | ((with_reducible apply Wp.region)) | ((with_reducible apply Wp.skip)) | ((with_reducible apply Wp.ret)) | (refine WpA.condT ?_) | (refine WpA.condF ?_) | (refine WpA.condTo ?_) | (refine WpA.condFo ?_) | ((with_reducible apply Wp.cond); (exact rfl); all_goals (intro hb; (have hb0 := hb; try simp only [decide_eq_true_eq, decide_eq_false_iff_not, Bool.not_eq_true', Bool.not_eq_false', Int.not_lt, Int.not_le, ne_eq, Decidable.not_not] at hb0); (try (exfalso; first | contradiction | omega)))) | ((with_reducible apply Wp.block)) | ((with_reducible apply Wp.exit)) | ((with_reducible apply Wp.label))) | ((with_reducible apply thenQ_n)) | ((with_reducible apply thenQ_r)) | ((with_reducible apply thenQ_e)) | ((with_reducible apply RetQ.one); (exact rfl); (conv => lhs; whnf)) | ((with_reducible apply blockQ_n)) | ((with_reducible apply blockQ_r)) | ((with_reducible apply blockQ_here); (exact rfl)) | ((with_reducible apply blockQ_on); (decide)))
  refine Wp.loop (fun m ρ w1 => ∃ (k : Nat), m = l.length - k ∧ k ≤ l.length ∧ ρ 0 = .int .u16 (rcrcU s (l.take k)) ∧ ρ 1 = .slice a l.length c ∧ ρ 5 = .int .i64 k ∧ Fr w w1 []) l.length ⟨0, rfl, Nat.zero_le _, rfl, rfl, rfl, FrA⟩ ?_
  rintro m ρ w1 ⟨k, rfl, hk, s0, s1, s5, hF⟩
  have hz := hF.size
  by_cases hlt : k < l.length
  · obtain ⟨b, o, c', he, -⟩ := h.toV.open (by omega)
    cases he
    have hck := fun (w' : World) (hf : Fr w w' S) => h.cellA hlt hf
    have hs := rcrcU_snoc (s := s) hlt
    generalize l.getD k 0 = x at hck hs
    refine Wp.keep (t := 0) s0 (Wp.keep (t := 1) s1 (Wp.keep (t := 5) s5 (?_)))
    repeat' (first | ((with_reducible show Wo _ _ _ _ _ _ _ _); first | (refine WoA.step ?_) | ((with_reducible apply Wo.nil)) | ((with_reducible apply Wo.step0)) | (refine WoA.list ?_)) | ((with_reducible show Ox _ _ _ _ _); first | (refine OxA.move ?_) | (refine OxA.load ?_) | (refine OxA.assign ?_) | (refine OxA.add' ?_) | (refine OxA.sub' ?_) | (refine OxA.add ?_) | (refine OxA.sub ?_) | (refine OxA.lss ?_) | (refine OxA.geq ?_) | (refine OxA.loadAggB ?_) | (refine OxA.len ?_) | (refine OxA.call2 ?_) | (refine OxA.indexAddr1 ?_) | ((with_reducible apply Ox.indexAddrN); (exact rfl); (exact rfl); (omega); (omega); (first | (conv => lhs; simp only [Nat.zero_add, Int.toNat_natCast]) | exact rfl)) | (refine OxA.indexAddr ?_) | (refine OxA.shrC ?_) | (refine OxA.lenS ?_)) | ((with_reducible show Wp _ _ _ _ _ _ _); first | ((with_reducible apply Wp.seq)) | ((with_reducible apply Wp.region)) | ((with_reducible apply Wp.skip)) | ((with_reducible apply Wp.ret)) | (refine WpA.condT ?_) | (refine WpA.condF ?_) | (refine WpA.condTo ?_) | (refine WpA.condFo ?_) | ((with_reducible apply Wp.cond); (exact rfl); all_goals (intro hb; (have hb0 := hb; try simp only [decide_eq_true_eq, decide_eq_false_iff_not, Bool.not_eq_true', Bool.not_eq_false', Int.not_lt, Int.not_le, ne_eq, Decidable.not_not] at hb0); (try (exfalso; first | contradiction | omega)))) | ((with_reducible apply Wp.block)) | ((with_reducible apply Wp.exit)) | ((with_reducible apply Wp.label))) | ((with_reducible apply thenQ_n)) | ((with_reducible apply thenQ_r)) | ((with_reducible apply thenQ_e)) | ((with_reducible apply RetQ.one); (exact rfl); (conv => lhs; whnf)) | ((with_reducible apply blockQ_n)) | ((with_reducible apply blockQ_r)) | ((with_reducible apply blockQ_here); (exact rfl)) | ((with_reducible apply blockQ_on); (decide)))
    generalize rcrcU s (l.take k) = X at hs
    refine Wp.loop (fun m ρ w2 => ∃ (j : Nat), m = 8 - j ∧ j ≤ 8 ∧ ρ 0 = .int .u16 (rcrcN X x j) ∧ ρ 1 = .slice (some ⟨b, o, none⟩) l.length c ∧ ρ 5 = .int .i64 k ∧ ρ 6 = .int .i64 (7 - (j : Int)) ∧ Fr w w2 []) 8 ⟨0, rfl, by omega, rfl, rfl, rfl, rfl, FrA⟩ ?_
    clear s0 s1 s5
    rintro m ρ w2 ⟨j, rfl, hj, s0, s1, s5, s6, hF2⟩
    have hz2 := hF2.size
    refine Wp.keep (t := 0) s0 (Wp.keep (t := 1) s1 (Wp.keep (t := 5) s5 (Wp.keep (t := 6) s6 (?_))))
    by_cases hj8 : j < 8
    · have e1 : rbit (rcrcN X x j) ((x / 2 ^ (7 - j)).tmod 2) = rcrcN X x (j + 1) := rfl
      have e2 : (7 - (j : Int)).toNat = 7 - j := by omega
      have e3 : (7 - (j : Int)) ≤ ((8 : Nat) : Int) := by omega
      repeat' (first | ((with_reducible show Calls _ _ _ _ _); first | ((with_reducible refine (rbit_calls _ _ _).mono ?_); rw [e1]; rintro e w' ⟨rfl, rfl⟩; refine ⟨_, rfl, ?_⟩)) | ((with_reducible show Wo _ _ _ _ _ _ _ _); first | (refine WoA.step ?_) | ((with_reducible apply Wo.nil)) | ((with_reducible apply Wo.step0)) | (refine WoA.list ?_)) | ((with_reducible show Ox _ _ _ _ _); first | ((with_reducible apply Ox.load); (exact rfl); (exact hck _ (Fr.mono (S := []) FrA (by simp)))) | ((with_reducible apply Ox.shrC); (exact rfl); (exact rfl); (omega); (exact e3); rw [e2]) | ((with_reducible apply Ox.rem); (exact rfl); (exact rfl); (decide)) | (refine OxA.move ?_) | (refine OxA.load ?_) | (refine OxA.assign ?_) | (refine OxA.add' ?_) | (refine OxA.sub' ?_) | (refine OxA.add ?_) | (refine OxA.sub ?_) | (refine OxA.lss ?_) | (refine OxA.geq ?_) | (refine OxA.loadAggB ?_) | (refine OxA.len ?_) | (refine OxA.call2 ?_) | (refine OxA.indexAddr1 ?_) | ((with_reducible apply Ox.indexAddrN); (exact rfl); (exact rfl); (omega); (omega); (first | (conv => lhs; simp only [Nat.zero_add, Int.toNat_natCast]) | exact rfl)) | (refine OxA.indexAddr ?_) | (refine OxA.shrC ?_) | (refine OxA.lenS ?_)) | ((with_reducible show Wp _ _ _ _ _ _ _); first | ((with_reducible apply Wp.seq)) | ((with_reducible apply Wp.region)) | ((with_reducible apply Wp.skip)) | ((with_reducible apply Wp.ret)) | (refine WpA.condT ?_) | (refine WpA.condF ?_) | (refine WpA.condTo ?_) | (refine WpA.condFo ?_) | ((with_reducible apply Wp.cond); (exact rfl); all_goals (intro hb; (have hb0 := hb; try simp only [decide_eq_true_eq, decide_eq_false_iff_not, Bool.not_eq_true', Bool.not_eq_false', Int.not_lt, Int.not_le, ne_eq, Decidable.not_not] at hb0); (try (exfalso; first | contradiction | omega)))) | ((with_reducible apply Wp.block)) | ((with_reducible apply Wp.exit)) | ((with_reducible apply Wp.label))) | ((with_reducible apply thenQ_n)) | ((with_reducible apply thenQ_r)) | ((with_reducible apply thenQ_e)) | ((with_reducible apply RetQ.one); (exact rfl); (conv => lhs; whnf)) | ((with_reducible apply blockQ_n)) | ((with_reducible apply blockQ_r)) | ((with_reducible apply blockQ_here); (exact rfl)) | ((with_reducible apply blockQ_on); (decide)))
      all_goals exact ⟨8 - (j + 1), by omega, j + 1, rfl, by omega, rfl, rfl, rfl, (by show Value.int .i64 (7 - (j : Int) - 1) = _; congr 1; omega), FrA⟩
    · obtain rfl : j = 8 := by omega
      rw [← hs] at s0 ⊢
      repeat' (first | ((with_reducible show Wo _ _ _ _ _ _ _ _); first | (refine WoA.step ?_) | ((with_reducible apply Wo.nil)) | ((with_reducible apply Wo.step0)) | (refine WoA.list ?_)) | ((with_reducible show Ox _ _ _ _ _); first | (refine OxA.move ?_) | (refine OxA.load ?_) | (refine OxA.assign ?_) | (refine OxA.add' ?_) | (refine OxA.sub' ?_) | (refine OxA.add ?_) | (refine OxA.sub ?_) | (refine OxA.lss ?_) | (refine OxA.geq ?_) | (refine OxA.loadAggB ?_) | (refine OxA.len ?_) | (refine OxA.call2 ?_) | (refine OxA.indexAddr1 ?_) | ((with_reducible apply Ox.indexAddrN); (exact rfl); (exact rfl); (omega); (omega); (first | (conv => lhs; simp only [Nat.zero_add, Int.toNat_natCast]) | exact rfl)) | (refine OxA.indexAddr ?_) | (refine OxA.shrC ?_) | (refine OxA.lenS ?_)) | ((with_reducible show Wp _ _ _ _ _ _ _); first | ((with_reducible apply Wp.seq)) | ((with_reducible apply Wp.region)) | ((with_reducible apply Wp.skip)) | ((with_reducible apply Wp.ret)) | (refine WpA.condT ?_) | (refine WpA.condF ?_) | (refine WpA.condTo ?_) | (refine WpA.condFo ?_) | ((with_reducible apply Wp.cond); (exact rfl); all_goals (intro hb; (have hb0 := hb; try simp only [decide_eq_true_eq, decide_eq_false_iff_not, Bool.not_eq_true', Bool.not_eq_false', Int.not_lt, Int.not_le, ne_eq, Decidable.not_not] at hb0); (try (exfalso; first | contradiction | omega)))) | ((with_reducible apply Wp.block)) | ((with_reducible apply Wp.exit)) | ((with_reducible apply Wp.label))) | ((with_reducible apply thenQ_n)) | ((with_reducible apply thenQ_r)) | ((with_reducible apply thenQ_e)) | ((with_reducible apply RetQ.one); (exact rfl); (conv => lhs; whnf)) | ((with_reducible apply blockQ_n)) | ((with_reducible apply blockQ_r)) | ((with_reducible apply blockQ_here); (exact rfl)) | ((with_reducible apply blockQ_on); (decide)))
      all_goals exact ⟨l.length - (k + 1), by omega, k + 1, rfl, by omega, rfl, rfl, rfl, FrA⟩
  · obtain rfl : k = l.length := by omega
    rw [List.take_length] at s0
    refine Wp.keep (t := 0) s0 (Wp.keep (t := 1) s1 (Wp.keep (t := 5) s5 (?_)))
    repeat' (first | ((with_reducible show Wo _ _ _ _ _ _ _ _); first | (refine WoA.step ?_) | ((with_reducible apply Wo.nil)) | ((with_reducible apply Wo.step0)) | (refine WoA.list ?_)) | ((with_reducible show Ox _ _ _ _ _); first | (refine OxA.move ?_) | (refine OxA.load ?_) | (refine OxA.assign ?_) | (refine OxA.add' ?_) | (refine OxA.sub' ?_) | (refine OxA.add ?_) | (refine OxA.sub ?_) | (refine OxA.lss ?_) | (refine OxA.geq ?_) | (refine OxA.loadAggB ?_) | (refine OxA.len ?_) | (refine OxA.call2 ?_) | (refine OxA.indexAddr1 ?_) | ((with_reducible apply Ox.indexAddrN); (exact rfl); (exact rfl); (omega); (omega); (first | (conv => lhs; simp only [Nat.zero_add, Int.toNat_natCast]) | exact rfl)) | (refine OxA.indexAddr ?_) | (refine OxA.shrC ?_) | (refine OxA.lenS ?_)) | ((with_reducible show Wp _ _ _ _ _ _ _); first | ((with_reducible apply Wp.seq)) | ((with_reducible apply Wp.region)) | ((with_reducible apply Wp.skip)) | ((with_reducible apply Wp.ret)) | (refine WpA.condT ?_) | (refine WpA.condF ?_) | (refine WpA.condTo ?_) | (refine WpA.condFo ?_) | ((with_reducible apply Wp.cond); (exact rfl); all_goals (intro hb; (have hb0 := hb; try simp only [decide_eq_true_eq, decide_eq_false_iff_not, Bool.not_eq_true', Bool.not_eq_false', Int.not_lt, Int.not_le, ne_eq, Decidable.not_not] at hb0); (try (exfalso; first | contradiction | omega)))) | ((with_reducible apply Wp.block)) | ((with_reducible apply Wp.exit)) | ((with_reducible apply Wp.label))) | ((with_reducible apply thenQ_n)) | ((with_reducible apply thenQ_r)) | ((with_reducible apply thenQ_e)) | ((with_reducible apply RetQ.one); (exact rfl); (conv => lhs; whnf)) | ((with_reducible apply blockQ_n)) | ((with_reducible apply blockQ_r)) | ((with_reducible apply blockQ_here); (exact rfl)) | ((with_reducible apply blockQ_on); (decide)))
    all_goals exact ⟨rfl, FrA⟩
theorem rcrcSum_calls {v : Value} {l : List Int} {S : List Nat} (w : World) (h : RdB w S v l) (hl : l.length ≤ 140737488351232) :
    Calls Try.prog 64 #[v] w fun e w' => e = .returned (.int .u16 (rcrcU 65535 l)) ∧ Fr w w' [] := by
  obtain ⟨a, c, rfl⟩ := id h.toV.slice
  refine calls_Wp (args := [_]) Try.func64 rfl Try.ntmps64 (by simp) ?_
  repeat' (first | ((with_reducible show Calls _ _ _ _ _); first | ((with_reducible refine (rcrcUpd_calls 65535 _ h.k hl).mono ?_); rintro e wC ⟨rfl, hFC⟩; (have hzC := hFC.size); refine ⟨_, rfl, ?_⟩)) | ((with_reducible show Wo _ _ _ _ _ _ _ _); first | (refine WoA.step ?_) | ((with_reducible apply Wo.nil)) | ((with_reducible apply Wo.step0)) | (refine WoA.list ?_)) | ((with_reducible show Ox _ _ _ _ _); first | (refine OxA.move ?_) | (refine OxA.assign ?_) | (refine OxA.call2 ?_)) | ((with_reducible show Wp _ _ _ _ _ _ _); first | ((with_reducible apply Wp.seq)) | ((with_reducible apply Wp.region)) | ((with_reducible apply Wp.skip)) | ((with_reducible apply Wp.ret)) | ((with_reducible apply Wp.block)) | ((with_reducible apply Wp.exit)) | ((with_reducible apply Wp.label))) | ((with_reducible apply thenQ_n)) | ((with_reducible apply thenQ_r)) | ((with_reducible apply thenQ_e)) | ((with_reducible apply RetQ.one); (exact rfl); (conv => lhs; whnf)) | ((with_reducible apply blockQ_n)) | ((with_reducible apply blockQ_r)) | ((with_reducible apply blockQ_here); (exact rfl)) | ((with_reducible apply blockQ_on); (decide)))
  all_goals exact ⟨rfl, FrA⟩
/-! ### They agree -/
def stepV (x : BitVec 16) (t : Bool) : BitVec 16 := if t then (x <<< 1) ^^^ 4129#16 else x <<< 1
theorem ofV (x : BitVec 16) : BitVec.ofInt 16 (x.toNat : Int) = x := by simp
theorem xorV (x y : BitVec 16) : bits .xor .u16 (x.toNat : Int) (y.toNat : Int) = ((x ^^^ y).toNat : Int) := by
  show IntKind.u16.wrap ((BitVec.ofInt 16 (x.toNat : Int) ^^^ BitVec.ofInt 16 (y.toNat : Int)).toNat : Int) = _
  rw [ofV, ofV, IntKind.wrap_u16]
  have := (x ^^^ y).isLt
  omega
theorem shlV (x : BitVec 16) : IntKind.u16.wrap ((x.toNat : Int) * 2) = ((x <<< 1).toNat : Int) := by
  rw [BitVec.toNat_shiftLeft, Nat.shiftLeft_eq, IntKind.wrap_u16]
  omega
theorem stepV_int (x : BitVec 16) (t : Bool) : (if t then bits .xor .u16 (IntKind.u16.wrap ((x.toNat : Int) * 2)) 4129 else IntKind.u16.wrap ((x.toNat : Int) * 2)) = ((stepV x t).toNat : Int) := by
  unfold stepV
  rw [shlV]
  cases t
  · rfl
  · simp only [if_true]
    exact xorV _ 4129#16
theorem topV (x : BitVec 16) : ((x.toNat : Int) / 32768 = 1) ↔ x.msb = true := by
  rw [BitVec.msb_eq_decide]
  have := x.isLt
  simp only [decide_eq_true_eq]
  omega
theorem crc1V (x : BitVec 16) : crc1 (x.toNat : Int) = ((stepV x x.msb).toNat : Int) := by
  rw [← stepV_int]
  unfold crc1
  cases hm : x.msb
  · rw [if_neg (fun h => by rw [topV, hm] at h; cases h)]; simp
  · rw [if_pos ((topV x).2 hm)]; simp
theorem rbitV (x : BitVec 16) (t : Bool) : rbit (x.toNat : Int) (if t then 1 else 0) = ((stepV x (x.msb ^^ t)).toNat : Int) := by
  rw [← stepV_int]
  unfold rbit
  have h := topV x
  have hlt := x.isLt
  have e : IntKind.u8.wrap ((x.toNat : Int) / 32768) = if x.msb then 1 else 0 := by
    rw [IntKind.wrap_u8]
    cases hm : x.msb
    · rw [hm] at h
      have : ¬ (x.toNat : Int) / 32768 = 1 := fun hh => by simpa using h.1 hh
      simp
      omega
    · rw [h.2 hm]; rfl
  rw [e]
  cases x.msb <;> cases t <;> rfl
theorem bitV {c : Nat} (j : Nat) : ((c : Int) / 2 ^ j).tmod 2 = if c.testBit j then 1 else 0 := by
  have e : (c : Int) / 2 ^ j = ((c / 2 ^ j : Nat) : Int) := by simp
  rw [e, Nat.testBit_eq_decide_div_mod_eq, Int.tmod_eq_emod_of_nonneg (Int.natCast_nonneg _)]
  by_cases h : c / 2 ^ j % 2 = 1
  · simp [h]; omega
  · simp [h]; omega
theorem stepV_xor (x y : BitVec 16) (t s : Bool) : stepV (x ^^^ y) t = stepV x s ^^^ (y <<< 1) ^^^ (if t = s then 0#16 else 4129#16) := by
  unfold stepV
  rw [BitVec.shiftLeft_xor_distrib]
  generalize x <<< 1 = a
  generalize y <<< 1 = b
  generalize 4129#16 = p
  cases t <;> cases s <;> (ext i hi; simp; try (cases a[i] <;> cases b[i] <;> cases p[i] <;> rfl))
theorem crc_agree (x : BitVec 16) {c : Nat} (hc : c < 256) : ∀ j, j ≤ 8 → ∃ r : BitVec 16, rcrcN (x.toNat : Int) c j = r.toNat ∧ crcN j ((x ^^^ (BitVec.ofNat 16 c <<< 8)).toNat : Int) = ((r ^^^ (BitVec.ofNat 16 c <<< (8 + j))).toNat : Int)
  | 0, _ => ⟨x, rfl, rfl⟩
  | j + 1, hj => by
    obtain ⟨r, h1, h2⟩ := crc_agree x hc j (by omega)
    refine ⟨stepV r (r.msb ^^ c.testBit (7 - j)), ?_, ?_⟩
    · rw [rcrcN, h1, bitV, rbitV]
    · have hm : (r ^^^ (BitVec.ofNat 16 c <<< (8 + j))).msb = (r.msb ^^ c.testBit (7 - j)) := by
        rw [BitVec.msb_xor]
        congr 1
        rw [BitVec.msb_eq_getLsbD_last, BitVec.getLsbD_shiftLeft, BitVec.getLsbD_ofNat]
        have e : 16 - 1 - (8 + j) = 7 - j := by omega
        rw [e]
        have h3 : ¬ 15 < 8 + j := by omega
        simp [h3]
        omega
      rw [crcN, h2, crc1V, hm, stepV_xor r _ _ (r.msb ^^ c.testBit (7 - j)), if_pos rfl, BitVec.xor_zero, ← BitVec.shiftLeft_add, Nat.add_assoc]
theorem crcB_eq {s c : Int} (hs : 0 ≤ s ∧ s < 65536) (hc : 0 ≤ c ∧ c < 256) : crcB s c = rcrcN s c 8 ∧ 0 ≤ crcB s c ∧ crcB s c < 65536 := by
  obtain ⟨n, rfl⟩ := Int.eq_ofNat_of_zero_le hs.1
  obtain ⟨m, rfl⟩ := Int.eq_ofNat_of_zero_le hc.1
  obtain ⟨r, h1, h2⟩ := crc_agree (BitVec.ofNat 16 n) (c := m) (by omega) 8 (Nat.le_refl _)
  have e1 : ((BitVec.ofNat 16 n).toNat : Int) = n := by rw [BitVec.toNat_ofNat]; omega
  have e2 : BitVec.ofNat 16 m <<< (8 + 8) = 0#16 := by
    apply BitVec.eq_of_toNat_eq
    rw [BitVec.toNat_shiftLeft, Nat.shiftLeft_eq]
    simp only [BitVec.toNat_ofNat]
    omega
  have e3 : IntKind.u16.wrap (IntKind.u16.wrap (m : Int) * 256) = ((BitVec.ofNat 16 m <<< 8).toNat : Int) := by
    rw [BitVec.toNat_shiftLeft, Nat.shiftLeft_eq, IntKind.wrap_u16, IntKind.wrap_u16, BitVec.toNat_ofNat]
    omega
  rw [e1] at h1
  rw [e2, BitVec.xor_zero] at h2
  have e4 : crcB (n : Int) m = r.toNat := by
    unfold crcB
    rw [e3, ← e1, xorV, h2]
  have := r.isLt
  exact ⟨by rw [e4]; exact h1.symm, by omega, by omega⟩
theorem crcU_eq : ∀ {l : List Int} {s : Int}, (0 ≤ s ∧ s < 65536) → (∀ x ∈ l, 0 ≤ x ∧ x < 256) → crcU s l = rcrcU s l ∧ 0 ≤ crcU s l ∧ crcU s l < 65536
  | [], s, hs, _ => ⟨rfl, hs⟩
  | c :: l, s, hs, hl => by
    obtain ⟨h1, h2⟩ := crcB_eq hs (hl c (by simp))
    have := crcU_eq (l := l) h2 fun x hx => hl x (by simp [hx])
    unfold crcU rcrcU at *
    rw [List.foldl_cons, List.foldl_cons, ← h1]
    exact this
end Go.Proofs.Ytlaodoakiijjnaa
