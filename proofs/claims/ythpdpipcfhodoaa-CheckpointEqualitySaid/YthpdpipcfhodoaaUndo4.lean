/- Package undolog, fourth part: Rollback, a range over slices.Backward. No condition. -/
import Derived.Test.YthpdpipcfhodoaaUndo3
namespace Go.Proofs.Ythpdpipcfhodoaa
open Go.RowKit
set_option linter.unusedSimpArgs false
set_option maxHeartbeats 4000000
set_option linter.unusedVariables false

/-- slices.Backward's iterator over a row of ints: the rounds from the last element to the first. -/
theorem backward_calls {l b : Nat} {v : Value} {xs : List Int} (I : Nat → World → Prop) (J : World → Prop) (w : World) (hlen : xs.length ≤ 1000000)
    (hI : ∀ k w, I k w → w.heap[b]? = some (.cells #[v] 137 (0, 0)) ∧ RdV w [] 1 v xs.length (intsV .i64 xs))
    (hround : ∀ k w, k < xs.length → I (k + 1) w → YieldOk Try.prog l #[.int .i64 k, .int .i64 (xs.getD k 0)] w fun r w' => (r = true ∧ I k w') ∨ (r = false ∧ J w')) (h0 : I xs.length w) :
    Calls Try.prog 102 #[.func (.yield l) #[] #[], .pointer (some ⟨b, 0, none⟩)] w fun e w' => (∃ v, e = .returned v) ∧ (I 0 w' ∨ J w') := by
  obtain ⟨hb, hv⟩ := hI _ _ h0
  obtain ⟨a, c, rfl⟩ := id hv.slice
  refine calls_Wp (args := [_, _]) Try.func102 rfl Try.ntmps102 (by simp) ?_
  repeat' (first | ((with_reducible show Wo _ _ _ _ _ _ _ _); first | (refine WoA.step ?_) | ((with_reducible apply Wo.nil)) | ((with_reducible apply Wo.step0)) | (refine WoA.list ?_)) | ((with_reducible show Ox _ _ _ _ _); first | (refine OxA.move ?_) | (refine OxA.load ?_) | (refine OxA.assign ?_) | (refine OxA.not ?_) | (refine OxA.sub' ?_) | (refine OxA.sub ?_) | (refine OxA.geq ?_) | (refine OxA.loadAggB ?_) | (refine OxA.len ?_) | (refine OxA.callV0 ?_) | (refine OxA.indexAddr1 ?_) | ((with_reducible apply Ox.indexAddrN); (exact rfl); (exact rfl); (omega); (omega); (first | (conv => lhs; simp only [Nat.zero_add, Int.toNat_natCast]) | exact rfl)) | (refine OxA.indexAddr ?_) | (refine OxA.lenS ?_)) | ((with_reducible show Wp _ _ _ _ _ _ _); first | ((with_reducible apply Wp.seq)) | ((with_reducible apply Wp.region)) | ((with_reducible apply Wp.skip)) | ((with_reducible apply Wp.ret)) | (refine WpA.condT ?_) | (refine WpA.condF ?_) | (refine WpA.condTo ?_) | (refine WpA.condFo ?_) | ((with_reducible apply Wp.cond); (exact rfl); all_goals (intro hb; (have hb0 := hb; try simp only [decide_eq_true_eq, decide_eq_false_iff_not, Bool.not_eq_true', Bool.not_eq_false', Int.not_lt, Int.not_le, ne_eq, Decidable.not_not] at hb0); (try (exfalso; first | contradiction | omega)))) | ((with_reducible apply Wp.block)) | ((with_reducible apply Wp.exit)) | ((with_reducible apply Wp.label))) | ((with_reducible apply thenQ_n)) | ((with_reducible apply thenQ_r)) | ((with_reducible apply thenQ_e)) | ((with_reducible apply RetQ.zero); (exact rfl)) | ((with_reducible apply RetQ.zeroE); (exact rfl)) | ((with_reducible apply blockQ_n)) | ((with_reducible apply blockQ_r)) | ((with_reducible apply blockQ_here); (exact rfl)) | ((with_reducible apply blockQ_on); (decide)))
  refine Wp.loop (fun m ρ w1 => ∃ (k : Nat), m = k ∧ k ≤ xs.length ∧ ρ 0 = .func (.yield l) #[] #[] ∧ ρ 1 = .pointer (some ⟨b, 0, none⟩) ∧ ρ 3 = .int .i64 ((k : Int) - 1) ∧ I k w1) xs.length ⟨_, rfl, Nat.le_refl _, rfl, rfl, rfl, h0⟩ ?_
  rintro m ρ w1 ⟨k, rfl, hk, s0, s1, s3, hIk⟩
  obtain ⟨hb', hv'⟩ := hI _ _ hIk
  refine Wp.keep (t := 0) s0 (Wp.keep (t := 1) s1 (Wp.keep (t := 3) s3 (?_)))
  cases m with
  | zero =>
    repeat' (first | ((with_reducible show Wo _ _ _ _ _ _ _ _); first | (refine WoA.step ?_) | ((with_reducible apply Wo.nil)) | ((with_reducible apply Wo.step0)) | (refine WoA.list ?_)) | ((with_reducible show Ox _ _ _ _ _); first | (refine OxA.move ?_) | (refine OxA.load ?_) | (refine OxA.assign ?_) | (refine OxA.not ?_) | (refine OxA.sub' ?_) | (refine OxA.sub ?_) | (refine OxA.geq ?_) | (refine OxA.loadAggB ?_) | (refine OxA.len ?_) | (refine OxA.callV0 ?_) | (refine OxA.indexAddr1 ?_) | ((with_reducible apply Ox.indexAddrN); (exact rfl); (exact rfl); (omega); (omega); (first | (conv => lhs; simp only [Nat.zero_add, Int.toNat_natCast]) | exact rfl)) | (refine OxA.indexAddr ?_) | (refine OxA.lenS ?_)) | ((with_reducible show Wp _ _ _ _ _ _ _); first | ((with_reducible apply Wp.seq)) | ((with_reducible apply Wp.region)) | ((with_reducible apply Wp.skip)) | ((with_reducible apply Wp.ret)) | (refine WpA.condT ?_) | (refine WpA.condF ?_) | (refine WpA.condTo ?_) | (refine WpA.condFo ?_) | ((with_reducible apply Wp.cond); (exact rfl); all_goals (intro hb; (have hb0 := hb; try simp only [decide_eq_true_eq, decide_eq_false_iff_not, Bool.not_eq_true', Bool.not_eq_false', Int.not_lt, Int.not_le, ne_eq, Decidable.not_not] at hb0); (try (exfalso; first | contradiction | omega)))) | ((with_reducible apply Wp.block)) | ((with_reducible apply Wp.exit)) | ((with_reducible apply Wp.label))) | ((with_reducible apply thenQ_n)) | ((with_reducible apply thenQ_r)) | ((with_reducible apply thenQ_e)) | ((with_reducible apply RetQ.zero); (exact rfl)) | ((with_reducible apply RetQ.zeroE); (exact rfl)) | ((with_reducible apply blockQ_n)) | ((with_reducible apply blockQ_r)) | ((with_reducible apply blockQ_here); (exact rfl)) | ((with_reducible apply blockQ_on); (decide)))
    exact ⟨⟨_, rfl⟩, .inl hIk⟩
  | succ k =>
    obtain ⟨b', o', c', he, -, -, -, -, -⟩ := hv'.open (by omega)
    cases he
    have hck := hv'.cellA (w' := w1) (intsV_get (show k < xs.length by omega)) (Fr.refl _ _)
    have hi : ((k + 1 : Nat) : Int) - 1 = k := by omega
    rw [hi]
    have hro := hround k w1 (by omega) hIk
    repeat' (first | ((with_reducible show Wo _ _ _ _ _ _ _ _); first | (refine WoA.step ?_) | ((with_reducible apply Wo.nil)) | ((with_reducible apply Wo.step0)) | (refine WoA.list ?_)) | ((with_reducible show Ox _ _ _ _ _); first | ((with_reducible apply Ox.load); (exact rfl); (exact hck)) | ((with_reducible apply Ox.yield2); (exact rfl); (conv => lhs; whnf); (conv => lhs; whnf); refine YieldOk.mono hro ?_; rintro r w2 (⟨rfl, hI2⟩ | ⟨rfl, hJ2⟩)) | (refine OxA.move ?_) | (refine OxA.load ?_) | (refine OxA.assign ?_) | (refine OxA.not ?_) | (refine OxA.sub' ?_) | (refine OxA.sub ?_) | (refine OxA.geq ?_) | (refine OxA.loadAggB ?_) | (refine OxA.len ?_) | (refine OxA.callV0 ?_) | (refine OxA.indexAddr1 ?_) | ((with_reducible apply Ox.indexAddrN); (exact rfl); (exact rfl); (omega); (omega); (first | (conv => lhs; simp only [Nat.zero_add, Int.toNat_natCast]) | exact rfl)) | (refine OxA.indexAddr ?_) | (refine OxA.lenS ?_)) | ((with_reducible show Wp _ _ _ _ _ _ _); first | ((with_reducible apply Wp.seq)) | ((with_reducible apply Wp.region)) | ((with_reducible apply Wp.skip)) | ((with_reducible apply Wp.ret)) | (refine WpA.condT ?_) | (refine WpA.condF ?_) | (refine WpA.condTo ?_) | (refine WpA.condFo ?_) | ((with_reducible apply Wp.cond); (exact rfl); all_goals (intro hb; (have hb0 := hb; try simp only [decide_eq_true_eq, decide_eq_false_iff_not, Bool.not_eq_true', Bool.not_eq_false', Int.not_lt, Int.not_le, ne_eq, Decidable.not_not] at hb0); (try (exfalso; first | contradiction | omega)))) | ((with_reducible apply Wp.block)) | ((with_reducible apply Wp.exit)) | ((with_reducible apply Wp.label))) | ((with_reducible apply thenQ_n)) | ((with_reducible apply thenQ_r)) | ((with_reducible apply thenQ_e)) | ((with_reducible apply RetQ.zero); (exact rfl)) | ((with_reducible apply RetQ.zeroE); (exact rfl)) | ((with_reducible apply blockQ_n)) | ((with_reducible apply blockQ_r)) | ((with_reducible apply blockQ_here); (exact rfl)) | ((with_reducible apply blockQ_on); (decide)))
    · exact ⟨k, by omega, k, rfl, by omega, rfl, rfl, rfl, hI2⟩
    · exact ⟨⟨_, rfl⟩, .inr hJ2⟩

/-! ### What a rollback does -/
def Lg.undo (L : Lg) : List (Int × Int) → Mem → Bool × Mem
  | [], M => (true, M)
  | p :: ps, M => if L.can p.1 = true then (if (M.writeBytes p.1 (wordL p.2)).1 = true then L.undo ps (M.writeBytes p.1 (wordL p.2)).2 else (false, (M.writeBytes p.1 (wordL p.2)).2)) else L.undo ps M
theorem Lg.undo_append (L : Lg) (ps qs : List (Int × Int)) : ∀ M : Mem, L.undo (ps ++ qs) M = if (L.undo ps M).1 = true then L.undo qs (L.undo ps M).2 else L.undo ps M := by
  induction ps with
  | nil => intro M; simp [Lg.undo]
  | cons p ps ih =>
    intro M
    simp only [List.cons_append, Lg.undo]
    split
    · split
      · exact ih _
      · simp
    · exact ih _
theorem Lg.undo_blocks (L : Lg) (ps : List (Int × Int)) : ∀ M : Mem, (L.undo ps M).2.mtr.blocks = M.mtr.blocks := by
  induction ps with
  | nil => intro M; rfl
  | cons p ps ih =>
    intro M
    simp only [Lg.undo]
    repeat' split
    · rw [ih, Mem.writeBytes_blocks]
    · exact Mem.writeBytes_blocks _ _ _
    · exact ih _
theorem Lg.undo_len (L : Lg) (ps : List (Int × Int)) : ∀ M : Mem, (L.undo ps M).2.b.length = M.b.length := by
  induction ps with
  | nil => intro M; rfl
  | cons p ps ih =>
    intro M
    simp only [Lg.undo]
    repeat' split
    · rw [ih, Mem.writeBytes_len]
    · exact Mem.writeBytes_len _ _ _
    · exact ih _
/-- The entries, from the last to the first. -/
def Lg.back (L : Lg) (M : Mem) (n : Nat) : List (Int × Int) := (List.range n).reverse.map fun (i : Nat) => (IntKind.u16.wrap (M.readWord (L.entry i)), M.readWord (L.entry i + 2))
def Lg.rollback (L : Lg) (M : Mem) (n : Int) : Int × Mem :=
  if okGen n = false then (1, M)
  else if (L.undo (L.back M (L.num M n)) M).1 = false then (9, (L.undo (L.back M (L.num M n)) M).2)
  else L.clear (L.undo (L.back M (L.num M n)) M).2 n
theorem Lg.rollback_blocks (L : Lg) (M : Mem) (n : Int) : (L.rollback M n).2.mtr.blocks = M.mtr.blocks := by
  unfold Lg.rollback
  repeat' split
  · rfl
  · exact Lg.undo_blocks _ _ _
  · rw [Lg.clear_blocks, Lg.undo_blocks]
theorem Lg.rollback_len (L : Lg) (M : Mem) (n : Int) : (L.rollback M n).2.b.length = M.b.length := by
  unfold Lg.rollback
  repeat' split
  · rfl
  · exact Lg.undo_len _ _ _
  · rw [Lg.clear_len, Lg.undo_len]
end Go.Proofs.Ythpdpipcfhodoaa
