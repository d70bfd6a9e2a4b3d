/- Chapter 36: the reader of a checkpoint's bytes. Conditions: enough bytes. -/
import Derived.Test.YthpdpipcfhodoaaDecP
import Derived.Test.YthpdpipcfhodoaaEq36
namespace Go.Proofs.Ythpdpipcfhodoaa
open Go.RowKit
set_option linter.unusedSimpArgs false
set_option maxHeartbeats 4000000
set_option linter.unusedVariables false

theorem bits_or64 (a x : Int) (k : Nat) (hk : k < 6) (ha : 0 ≤ a ∧ a < 256 ^ k) (hx : 0 ≤ x ∧ x < 256) : bits .or .i64 a (IntKind.i64.wrap (x * 2 ^ (8 * (k : Int)).toNat)) = a + 256 ^ k * x := by
  obtain ⟨n, rfl⟩ := Int.eq_ofNat_of_zero_le ha.1
  obtain ⟨m, rfl⟩ := Int.eq_ofNat_of_zero_le hx.1
  have e0 : (2 : Int) ^ (8 * (k : Int)).toNat = ((2 ^ (8 * k) : Nat) : Int) := by
    rw [show (8 * (k : Int)).toNat = 8 * k by omega]; simp
  have e1 : (256 : Int) ^ k = ((2 ^ (8 * k) : Nat) : Int) := by
    rw [Nat.pow_mul]; simp
  rw [e1] at ha ⊢
  rw [e0]
  have hp : 2 ^ (8 * k) ≤ 2 ^ 40 := Nat.pow_le_pow_right (by decide) (by omega)
  have hm0 : 2 ^ (8 * k) * m ≤ 2 ^ 40 * 255 := Nat.mul_le_mul hp (by omega)
  have h3 := Nat.two_pow_add_eq_or_of_lt (i := 8 * k) (b := n) (by omega) m
  generalize 2 ^ (8 * k) = p at *
  have hw : IntKind.i64.wrap ((m : Int) * (p : Int)) = ((p * m : Nat) : Int) := by
    rw [IntKind.wrap_i64, Int.mul_comm, ← Int.natCast_mul]; omega
  rw [hw]
  have h1 : (BitVec.ofInt 64 (n : Int)).toNat = n := by
    rw [BitVec.ofInt_natCast, BitVec.toNat_ofNat]; exact Nat.mod_eq_of_lt (by omega)
  have h2 : (BitVec.ofInt 64 ((p * m : Nat) : Int)).toNat = p * m := by
    rw [BitVec.ofInt_natCast, BitVec.toNat_ofNat]; exact Nat.mod_eq_of_lt (by omega)
  show IntKind.i64.wrap ((BitVec.ofInt 64 (n : Int) ||| BitVec.ofInt 64 ((p * m : Nat) : Int)).toNat : Int) = _
  rw [BitVec.toNat_or, h1, h2, IntKind.wrap_i64, Nat.or_comm, ← h3]
  have e9 : (p : Int) * (m : Int) = ((p * m : Nat) : Int) := (Int.natCast_mul p m).symm
  rw [e9]; omega
theorem Ox.indexArr2 {P : Program} {d : Option Nat} {ty : TypeId} {pos : String} {aft : Array Edge} {g : Option (Nat × Bool)} {ρ : Env} {w : World} {K : Value → World → Prop} {T e bytes len : Nat} {z : Value} [hT : UT P T (.array len e)] [hE : EI P e z 1 bytes] {x ix : Operand} {b o o' : Nat} {k : IntKind} {i : Int} (hx : ev ρ x = .pointer (some ⟨b, o, none⟩)) (hi : ev ρ ix = .int k i)
    (h0 : 0 ≤ i) (h1 : i < len) (ho : o + i.toNat = o') (h : K (.pointer (some ⟨b, o', none⟩)) w) : Ox P ⟨d, .indexAddr T x ix, ty, pos, aft, g⟩ ρ w K := by
  obtain ⟨i0, hi0, hz0, hz1, hz2⟩ := info_parts hE.out
  have e : (⟨b, o, none⟩ : Addr).add (i.toNat * 1) = ⟨b, o', none⟩ := by subst ho; unfold Addr.add; split <;> simp_all
  rw [← e] at h
  simpa [Ox, execOp, hx, hi, Instr.indexAt, run_underlying hT.out, h0, h1, sizeOf, typeInfo, hi0, hz1, asIntOf, Instr.sureAddr, go_sem] using h

def Ent34 (w : World) (S : List Nat) (L : Lg) (M : Mem) (i : Int) (x y : Value) : Prop := RdV w S 1 x (L.num M i) (intsV .i64 (L.addrs M (L.num M i))) ∧ RdV w S 1 y (L.num M i) (intsV .i16 (L.vals M (L.num M i)))
theorem RdB.dropA {w : World} {S : List Nat} {a : Option Addr} {n c k : Nat} {l : List Int} (h : RdB w S (.slice a n c) l) (hk : k ≤ l.length) : RdB w S (.slice (cutA a k c 1) (n - k) (c - k)) (l.drop k) := by
  have hn : n = l.length := by obtain ⟨a', c', e⟩ := h.slice; cases e; rfl
  have := h.cut (k := k) (m := l.length - k) (by omega)
  rw [List.take_of_length_le (by rw [List.length_drop]; omega)] at this
  rw [hn]; exact this
/-- The reader of the bytes `l`, which lie where they lay in the world `w0`. -/
def IsR (w0 w : World) (br : Nat) (l : List Int) : Prop := ∃ v, w.heap[br]? = some (.cells #[v] 88 (0, 0)) ∧ RdB w0 [] v l
theorem IsR.k {w0 w w' : World} {br : Nat} {l : List Int} {S : List Nat} (h : IsR w0 w br l) (hf : Fr w w' S) (hb : br ∉ S) : IsR w0 w' br l := by
  obtain ⟨v, h1, h2⟩ := h
  exact ⟨v, hf.blk h1 hb, h2⟩
theorem IsR.lt {w0 w : World} {br : Nat} {l : List Int} (h : IsR w0 w br l) : br < w.heap.size := by obtain ⟨v, h1, -⟩ := h; exact lt_of_block h1
theorem rdnumber_calls (sz : Nat) {w0 : World} {br : Nat} {l : List Int} (w : World) (h : IsR w0 w br l) (hF0 : Fr w0 w []) (hbr : w0.heap.size ≤ br) (hsz : 1 ≤ sz ∧ sz ≤ 6) (hl : sz ≤ l.length) (hl2 : l.length ≤ 1000) :
    Calls Try.prog 46 #[.pointer (some ⟨br, 0, none⟩), .int .i64 sz] w fun e w' => e = .returned (.int .i64 (getI (l.take sz))) ∧ IsR w0 w' br (l.drop sz) ∧ Fr w w' [br] := by
  obtain ⟨v, hb, hR⟩ := h
  have hbl := lt_of_block hb
  obtain ⟨a, c, rfl, hlc, hbyt, hrest⟩ := id hR
  obtain ⟨b, o, rfl, -, hb0, -⟩ := hrest.resolve_left (by rintro rfl; simp at hl; omega)
  have hdr := hR.dropA hl
  refine calls_Wp (args := [_, _]) Try.func46 rfl Try.ntmps46 (by simp) ?_
  repeat' (first | ((with_reducible show Wo _ _ _ _ _ _ _ _); first | (refine WoA.step ?_) | ((with_reducible apply Wo.nil)) | ((with_reducible apply Wo.step0)) | (refine WoA.list ?_)) | ((with_reducible show Ox _ _ _ _ _); first | (refine OxA.move ?_) | (refine OxA.nilCheck ?_) | (refine OxA.fieldAddr0 ?_) | (refine OxA.fieldAddrN ?_) | (refine OxA.fieldAddr ?_) | (refine OxA.load ?_) | (refine OxA.assign ?_) | (refine OxA.add' ?_) | (refine OxA.mul' ?_) | (refine OxA.add ?_) | (refine OxA.mul ?_) | (refine OxA.lss ?_) | (refine OxA.or ?_) | (refine OxA.loadAggB ?_) | (refine OxA.storeAggB ?_; intro w1 hb1 hF1 hs1) | (refine OxA.convSame ?_; intro w1 hb1 hF1 hs1) | (refine OxA.convI ?_) | (refine OxA.conv ?_) | (refine OxA.storeB ?_; intro w1 hb1 hF1 hs1) | (refine OxA.indexAddr1 ?_) | ((with_reducible apply Ox.indexAddrN); (exact rfl); (exact rfl); (omega); (omega); (first | (conv => lhs; simp only [Nat.zero_add, Int.toNat_natCast]) | exact rfl)) | (refine OxA.indexAddr ?_) | (refine OxA.shlC ?_)) | ((with_reducible show Wp _ _ _ _ _ _ _); first | ((with_reducible apply Wp.seq)) | ((with_reducible apply Wp.region)) | ((with_reducible apply Wp.skip)) | ((with_reducible apply Wp.ret)) | (refine WpA.condT ?_) | (refine WpA.condF ?_) | (refine WpA.condTo ?_) | (refine WpA.condFo ?_) | ((with_reducible apply Wp.cond); (exact rfl); all_goals (intro hb; (have hb0 := hb; try simp only [decide_eq_true_eq, decide_eq_false_iff_not, Bool.not_eq_true', Bool.not_eq_false', Int.not_lt, Int.not_le, ne_eq, Decidable.not_not] at hb0); (try (exfalso; first | contradiction | omega)))) | ((with_reducible apply Wp.block)) | ((with_reducible apply Wp.exit)) | ((with_reducible apply Wp.label))) | ((with_reducible apply thenQ_n)) | ((with_reducible apply thenQ_r)) | ((with_reducible apply thenQ_e)) | ((with_reducible apply RetQ.one); (exact rfl); (conv => lhs; whnf)) | ((with_reducible apply blockQ_n)) | ((with_reducible apply blockQ_r)) | ((with_reducible apply blockQ_here); (exact rfl)) | ((with_reducible apply blockQ_on); (decide)))
  refine Wp.loop (fun m ρ w1 => ∃ (k : Nat), m = sz - k ∧ k ≤ sz ∧ ρ 0 = .pointer (some ⟨br, 0, none⟩) ∧ ρ 1 = .int .i64 sz ∧ ρ 5 = .int .i64 (getI (l.take k)) ∧ ρ 7 = .int .i64 sz ∧ ρ 8 = .int .i64 k ∧ w1.heap[br]? = some (.cells #[.slice (some ⟨b, o, none⟩) l.length c] 88 (0, 0)) ∧ Fr w w1 [br]) sz
    ⟨0, rfl, Nat.zero_le _, rfl, rfl, rfl, rfl, rfl, hb, FrA⟩ ?_
  rintro m ρ w1 ⟨k, rfl, hk, s0, s1, s5, s7, s8, hb1, hF⟩
  have hz := hF.size
  have hbl1 := lt_of_block hb1
  refine Wp.keep (t := 0) s0 (Wp.keep (t := 1) s1 (Wp.keep (t := 5) s5 (Wp.keep (t := 7) s7 (Wp.keep (t := 8) s8 (?_)))))
  by_cases hlt : k < sz
  · have hxl : k < l.length := by omega
    have hxm : l.getD k 0 ∈ l := by rw [List.getD_eq_getElem?_getD, List.getElem?_eq_getElem hxl]; exact List.getElem_mem hxl
    have hxb := hbyt _ hxm
    have hF01 : Fr w0 w1 [] := hF0.step hF (fun x hx => by rw [List.mem_singleton.1 hx]; exact .inr hbr)
    have hck := fun (w' : World) (hf : Fr w1 w' []) => hR.cellA hxl (hF01.trans hf)
    have htk : l.take (k + 1) = l.take k ++ [l.getD k 0] := by rw [List.take_add_one, List.getD_eq_getElem?_getD, List.getElem?_eq_getElem hxl]; rfl
    have hgi := getI_in (l.take k) (fun x hx => hbyt x (List.mem_of_mem_take hx))
    have hlk : (l.take k).length = k := by rw [List.length_take]; omega
    rw [hlk] at hgi
    have hor := bits_or64 (getI (l.take k)) (l.getD k 0) k (by omega) hgi hxb
    have hnx : getI (l.take (k + 1)) = getI (l.take k) + 256 ^ k * l.getD k 0 := by rw [htk, getI_snoc, hlk]
    rw [← hnx] at hor
    clear hnx htk hgi
    generalize l.getD k 0 = x at hck hor hxb
    repeat' (first | ((with_reducible show Wo _ _ _ _ _ _ _ _); first | (refine WoA.step ?_) | ((with_reducible apply Wo.nil)) | ((with_reducible apply Wo.step0)) | (refine WoA.list ?_)) | ((with_reducible show Ox _ _ _ _ _); first | ((with_reducible apply Ox.load); (exact rfl); (exact hck _ FrA)) | ((with_reducible apply Ox.shlC); (exact rfl); (exact rfl); (omega); (show 8 * (k : Int) ≤ 64; omega)) | ((with_reducible apply Ox.or); (exact rfl); (exact rfl); (rw [hor])) | (refine OxA.move ?_) | (refine OxA.nilCheck ?_) | (refine OxA.fieldAddr0 ?_) | (refine OxA.fieldAddrN ?_) | (refine OxA.fieldAddr ?_) | (refine OxA.load ?_) | (refine OxA.assign ?_) | (refine OxA.add' ?_) | (refine OxA.mul' ?_) | (refine OxA.add ?_) | (refine OxA.mul ?_) | (refine OxA.lss ?_) | (refine OxA.or ?_) | (refine OxA.loadAggB ?_) | (refine OxA.storeAggB ?_; intro w1 hb1 hF1 hs1) | (refine OxA.convSame ?_; intro w1 hb1 hF1 hs1) | (refine OxA.convI ?_) | (refine OxA.conv ?_) | (refine OxA.storeB ?_; intro w1 hb1 hF1 hs1) | (refine OxA.indexAddr1 ?_) | ((with_reducible apply Ox.indexAddrN); (exact rfl); (exact rfl); (omega); (omega); (first | (conv => lhs; simp only [Nat.zero_add, Int.toNat_natCast]) | exact rfl)) | (refine OxA.indexAddr ?_) | (refine OxA.shlC ?_)) | ((with_reducible show Wp _ _ _ _ _ _ _); first | ((with_reducible apply Wp.seq)) | ((with_reducible apply Wp.region)) | ((with_reducible apply Wp.skip)) | ((with_reducible apply Wp.ret)) | (refine WpA.condT ?_) | (refine WpA.condF ?_) | (refine WpA.condTo ?_) | (refine WpA.condFo ?_) | ((with_reducible apply Wp.cond); (exact rfl); all_goals (intro hb; (have hb0 := hb; try simp only [decide_eq_true_eq, decide_eq_false_iff_not, Bool.not_eq_true', Bool.not_eq_false', Int.not_lt, Int.not_le, ne_eq, Decidable.not_not] at hb0); (try (exfalso; first | contradiction | omega)))) | ((with_reducible apply Wp.block)) | ((with_reducible apply Wp.exit)) | ((with_reducible apply Wp.label))) | ((with_reducible apply thenQ_n)) | ((with_reducible apply thenQ_r)) | ((with_reducible apply thenQ_e)) | ((with_reducible apply RetQ.one); (exact rfl); (conv => lhs; whnf)) | ((with_reducible apply blockQ_n)) | ((with_reducible apply blockQ_r)) | ((with_reducible apply blockQ_here); (exact rfl)) | ((with_reducible apply blockQ_on); (decide)))
    all_goals exact ⟨sz - (k + 1), by omega, k + 1, rfl, by omega, rfl, rfl, rfl, rfl, rfl, BlkA, FrA⟩
  · obtain rfl : k = sz := by omega
    repeat' (first | ((with_reducible show Wo _ _ _ _ _ _ _ _); first | (refine WoA.step ?_) | ((with_reducible apply Wo.nil)) | ((with_reducible apply Wo.step0)) | (refine WoA.list ?_)) | ((with_reducible show Ox _ _ _ _ _); first | ((with_reducible apply Ox.sliceL); (exact rfl); (exact rfl); (omega); (omega); (rw [Int.toNat_natCast])) | (refine OxA.move ?_) | (refine OxA.nilCheck ?_) | (refine OxA.fieldAddr0 ?_) | (refine OxA.fieldAddrN ?_) | (refine OxA.fieldAddr ?_) | (refine OxA.load ?_) | (refine OxA.assign ?_) | (refine OxA.add' ?_) | (refine OxA.mul' ?_) | (refine OxA.add ?_) | (refine OxA.mul ?_) | (refine OxA.lss ?_) | (refine OxA.or ?_) | (refine OxA.loadAggB ?_) | (refine OxA.storeAggB ?_; intro w1 hb1 hF1 hs1) | (refine OxA.convSame ?_; intro w1 hb1 hF1 hs1) | (refine OxA.convI ?_) | (refine OxA.conv ?_) | (refine OxA.storeB ?_; intro w1 hb1 hF1 hs1) | (refine OxA.indexAddr1 ?_) | ((with_reducible apply Ox.indexAddrN); (exact rfl); (exact rfl); (omega); (omega); (first | (conv => lhs; simp only [Nat.zero_add, Int.toNat_natCast]) | exact rfl)) | (refine OxA.indexAddr ?_) | (refine OxA.shlC ?_)) | ((with_reducible show Wp _ _ _ _ _ _ _); first | ((with_reducible apply Wp.seq)) | ((with_reducible apply Wp.region)) | ((with_reducible apply Wp.skip)) | ((with_reducible apply Wp.ret)) | (refine WpA.condT ?_) | (refine WpA.condF ?_) | (refine WpA.condTo ?_) | (refine WpA.condFo ?_) | ((with_reducible apply Wp.cond); (exact rfl); all_goals (intro hb; (have hb0 := hb; try simp only [decide_eq_true_eq, decide_eq_false_iff_not, Bool.not_eq_true', Bool.not_eq_false', Int.not_lt, Int.not_le, ne_eq, Decidable.not_not] at hb0); (try (exfalso; first | contradiction | omega)))) | ((with_reducible apply Wp.block)) | ((with_reducible apply Wp.exit)) | ((with_reducible apply Wp.label))) | ((with_reducible apply thenQ_n)) | ((with_reducible apply thenQ_r)) | ((with_reducible apply thenQ_e)) | ((with_reducible apply RetQ.one); (exact rfl); (conv => lhs; whnf)) | ((with_reducible apply blockQ_n)) | ((with_reducible apply blockQ_r)) | ((with_reducible apply blockQ_here); (exact rfl)) | ((with_reducible apply blockQ_on); (decide)))
    all_goals exact ⟨rfl, ⟨_, BlkA, hdr⟩, FrA⟩
section
variable {w0 : World} {br : Nat} {l : List Int}
theorem rdnumber1_calls (w : World) (h : IsR w0 w br l) (hF0 : Fr w0 w []) (hbr : w0.heap.size ≤ br) (hl : 1 ≤ l.length) (hl2 : l.length ≤ 1000) :
    Calls Try.prog 46 #[.pointer (some ⟨br, 0, none⟩), .int .i64 1] w fun e w' => e = .returned (.int .i64 (getI (l.take 1))) ∧ IsR w0 w' br (l.drop 1) ∧ Fr w w' [br] := rdnumber_calls 1 w h hF0 hbr (by decide) hl hl2
theorem rdnumber4_calls (w : World) (h : IsR w0 w br l) (hF0 : Fr w0 w []) (hbr : w0.heap.size ≤ br) (hl : 4 ≤ l.length) (hl2 : l.length ≤ 1000) :
    Calls Try.prog 46 #[.pointer (some ⟨br, 0, none⟩), .int .i64 4] w fun e w' => e = .returned (.int .i64 (getI (l.take 4))) ∧ IsR w0 w' br (l.drop 4) ∧ Fr w w' [br] := rdnumber_calls 4 w h hF0 hbr (by decide) hl hl2
theorem rdnumber6_calls (w : World) (h : IsR w0 w br l) (hF0 : Fr w0 w []) (hbr : w0.heap.size ≤ br) (hl : 6 ≤ l.length) (hl2 : l.length ≤ 1000) :
    Calls Try.prog 46 #[.pointer (some ⟨br, 0, none⟩), .int .i64 6] w fun e w' => e = .returned (.int .i64 (getI (l.take 6))) ∧ IsR w0 w' br (l.drop 6) ∧ Fr w w' [br] := rdnumber_calls 6 w h hF0 hbr (by decide) hl hl2
theorem wget_calls (x y : Int) (w : World) (hx : 0 ≤ x ∧ x < 256) (hy : 0 ≤ y ∧ y < 256) : Calls Try.prog 76 #[.agg #[.int .u8 x, .int .u8 y]] w fun e w' => e = .returned (.int .i16 (IntKind.i16.wrap (x + 256 * y))) ∧ Fr w w' [] := by
  have e1 : IntKind.u16.wrap x = x := by rw [IntKind.wrap_u16]; omega
  have e2 : IntKind.u16.wrap y = y := by rw [IntKind.wrap_u16]; omega
  have e3 : (2 : Int) ^ Int.toNat 8 = 256 := by decide
  have e4 : IntKind.u16.wrap (y * 256) = y * 256 := by rw [IntKind.wrap_u16]; omega
  have e5 := bits_or_lo_hi x y hx hy
  refine calls_Wp (args := [_]) Try.func76 rfl Try.ntmps76 (by simp) ?_
  repeat' (first | ((with_reducible show Wo _ _ _ _ _ _ _ _); first | (refine WoA.step ?_) | ((with_reducible apply Wo.nil)) | ((with_reducible apply Wo.step0)) | (refine WoA.list ?_)) | ((with_reducible show Ox _ _ _ _ _); first | ((with_reducible apply Ox.indexArr2); (exact rfl); (exact rfl); (decide); (decide); (conv => lhs; simp)) | ((with_reducible apply Ox.shlC); (exact rfl); (exact rfl); (decide); (decide); (rw [e2, e3, e4])) | ((with_reducible apply Ox.or); (exact rfl); (exact rfl); (rw [e1, e5])) | ((with_reducible show Ox _ ⟨some 1, _, _, _, _, _⟩ _ _ _); (refine OxA.boxB ?_; intro b1 w1 hb1 hF1 hg1 hs1)) | (refine OxA.load ?_) | (refine OxA.assign ?_) | (refine OxA.or ?_) | (refine OxA.loadAggB ?_) | (refine OxA.convSame ?_; intro w1 hb1 hF1 hs1) | (refine OxA.convI ?_) | (refine OxA.conv ?_) | (refine OxA.indexAddr1 ?_) | ((with_reducible apply Ox.indexAddrN); (exact rfl); (exact rfl); (omega); (omega); (first | (conv => lhs; simp only [Nat.zero_add, Int.toNat_natCast]) | exact rfl)) | (refine OxA.indexAddr ?_) | (refine OxA.shlC ?_)) | ((with_reducible show Wp _ _ _ _ _ _ _); first | ((with_reducible apply Wp.seq)) | ((with_reducible apply Wp.region)) | ((with_reducible apply Wp.skip)) | ((with_reducible apply Wp.ret)) | ((with_reducible apply Wp.block)) | ((with_reducible apply Wp.exit)) | ((with_reducible apply Wp.label))) | ((with_reducible apply thenQ_n)) | ((with_reducible apply thenQ_r)) | ((with_reducible apply thenQ_e)) | ((with_reducible apply RetQ.one); (exact rfl); (conv => lhs; whnf)) | ((with_reducible apply blockQ_n)) | ((with_reducible apply blockQ_r)) | ((with_reducible apply blockQ_here); (exact rfl)) | ((with_reducible apply blockQ_on); (decide)))
  all_goals exact ⟨rfl, FrA⟩
theorem rdword_calls (w : World) (h : IsR w0 w br l) (hF0 : Fr w0 w []) (hbr : w0.heap.size ≤ br) (hl : 2 ≤ l.length) (hl2 : l.length ≤ 1000) :
    Calls Try.prog 47 #[.pointer (some ⟨br, 0, none⟩)] w fun e w' => e = .returned (.int .i16 (IntKind.i16.wrap (getI (l.take 2)))) ∧ IsR w0 w' br (l.drop 2) ∧ Fr w w' [br] := by
  obtain ⟨v, hb, hR⟩ := h
  have hbl := lt_of_block hb
  obtain ⟨a, c, rfl, hlc, hbyt, hrest⟩ := id hR
  obtain ⟨b, o, rfl, -, hb0, -⟩ := hrest.resolve_left (by rintro rfl; simp at hl)
  have hdr := hR.dropA hl
  have hc0 := fun (w' : World) (hf : Fr w w' []) => hR.cellA (j := 0) (by omega) (hF0.trans hf)
  have hc1 := fun (w' : World) (hf : Fr w w' []) => hR.cellA (j := 1) (by omega) (hF0.trans hf)
  have hb0' : 0 ≤ l.getD 0 0 ∧ l.getD 0 0 < 256 := hbyt _ (by rw [List.getD_eq_getElem?_getD, List.getElem?_eq_getElem (by omega)]; exact List.getElem_mem _)
  have hb1' : 0 ≤ l.getD 1 0 ∧ l.getD 1 0 < 256 := hbyt _ (by rw [List.getD_eq_getElem?_getD, List.getElem?_eq_getElem (by omega)]; exact List.getElem_mem _)
  have htk : getI (l.take 2) = l.getD 0 0 + 256 * l.getD 1 0 := by
    match l, hl with
    | x :: y :: r, _ => simp [getI]
  rw [htk]
  generalize l.getD 0 0 = x at hc0 hb0'
  generalize l.getD 1 0 = y at hc1 hb1'
  refine calls_Wp (args := [_]) Try.func47 rfl Try.ntmps47 (by simp) ?_
  repeat' (first | ((with_reducible show Calls _ _ _ _ _); first | ((with_reducible refine (wget_calls x y _ hb0' hb1').mono ?_); rintro e wG ⟨rfl, hFG⟩; (have hzG := hFG.size); refine ⟨_, rfl, ?_⟩)) | (with_reducible exact Px.mk) | (refine PeA.list ?_) | ((with_reducible show Wd _ _ _ _ _ _ _); first | ((with_reducible apply Wd.nil)) | (with_reducible exact Wd.stop) | ((with_reducible apply Wd.pure); (exact rfl); (intro w2 hF2; first | replace hF2 := FrZ.list hF2 | obtain ⟨S2, hF2, hS2⟩ := FrZ.plus hF2)) | (refine WdA.last ?_) | (refine WdA.last0 ?_) | (refine WdA.lastN ?_) | (refine WdA.lastN0 ?_) | (refine WdA.eff ?_ ?_) | (refine WdA.eff0 ?_ ?_)) | ((with_reducible show Wo _ _ _ _ _ _ _ _); first | (refine WoA.step ?_) | ((with_reducible apply Wo.nil)) | ((with_reducible apply Wo.step0)) | (refine WoA.list ?_)) | ((with_reducible show Ox _ _ _ _ _); first | ((with_reducible apply Ox.load); (exact rfl); (first | exact hc0 _ FrA | exact hc1 _ FrA)) | ((with_reducible apply Ox.buildArr); (repeat (first | exact EvL.nil | ((with_reducible apply EvL.cons); (conv => lhs; whnf)))); (conv => lhs; simp [Instr.fill, Value.cells, Function.comp])) | ((with_reducible apply Ox.sliceL); (exact rfl); (exact rfl); (omega); (omega)) | (refine OxA.move ?_) | (refine OxA.nilCheck ?_) | (refine OxA.fieldAddr0 ?_) | (refine OxA.fieldAddrN ?_) | (refine OxA.fieldAddr ?_) | (refine OxA.load ?_) | (refine OxA.assign ?_) | (refine OxA.loadAggB ?_) | (refine OxA.storeAggB ?_; intro w1 hb1 hF1 hs1) | (refine OxA.storeB ?_; intro w1 hb1 hF1 hs1) | (refine OxA.call1 ?_) | (refine OxA.indexAddr1 ?_) | ((with_reducible apply Ox.indexAddrN); (exact rfl); (exact rfl); (omega); (omega); (first | (conv => lhs; simp only [Nat.zero_add, Int.toNat_natCast]) | exact rfl)) | (refine OxA.indexAddr ?_) | (refine OxB.buildE ?_)) | ((with_reducible show Wp _ _ _ _ _ _ _); first | ((with_reducible apply Wp.drawS (id := 1) [] (.pure 0 (.pure 1 (.pure 2 (.pure 3 (.pure 4 (.pure 5 (.pure 6 (.pure 7 (.pure 8 (.pure 9 (.pure 10 (.pure 11 (.pure 12 (.alt 13 (.pure 14 .done) .stop))))))))))))))); (exact rfl); (kernel_rfl); (intro w1 hw1 hF1; have hsz1 : w1.heap.size = _ := congrArg Array.size hw1)) | ((with_reducible apply Wp.seq)) | ((with_reducible apply Wp.region)) | ((with_reducible apply Wp.skip)) | ((with_reducible apply Wp.ret)) | ((with_reducible apply Wp.block)) | ((with_reducible apply Wp.exit)) | ((with_reducible apply Wp.label))) | ((with_reducible apply thenQ_n)) | ((with_reducible apply thenQ_r)) | ((with_reducible apply thenQ_e)) | ((with_reducible apply RetQ.one); (exact rfl); (conv => lhs; whnf)) | ((with_reducible apply blockQ_n)) | ((with_reducible apply blockQ_r)) | ((with_reducible apply blockQ_here); (exact rfl)) | ((with_reducible apply blockQ_on); (decide)))
  all_goals exact ⟨rfl, ⟨_, BlkA, hdr⟩, FrA⟩
end
end Go.Proofs.Ythpdpipcfhodoaa
