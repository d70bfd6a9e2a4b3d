/- Plain laws of the log: logged writes that are interrupted are undone. No condition. -/
import Derived.Test.YtkkmiodambfbdaaUndoP
namespace Go.Proofs.Ytkkmiodambfbdaa
open Go.RowKit
set_option linter.unusedSimpArgs false
set_option maxHeartbeats 4000000
set_option linter.unusedVariables false

section
variable {L : Lg} {n : Int}
theorem Lg.plan_zero {b : List Int} (hok : L.Ok b.length) (hn : okGen n = true) (h0 : b[(L.addr + n - 1).toNat]? = some 0) :
    L.num (mem b false false 0 0) n = 0 ∧ L.plan b n = [(L.addr + n - 1, 0)] ∧ putAll b [(L.addr + n - 1, 0)] = b := by
  obtain ⟨h1, h2, h3, h4⟩ := hok
  have hg := of_decide_eq_true hn
  have hnum : L.num (mem b false false 0 0) n = 0 := by
    unfold Lg.num Lg.count
    rw [if_pos hn, Mem.read_on rfl (by omega) (by show _ < (b.length : Int); omega)]
    show (if L.most < b.getD (L.addr + n - 1).toNat 0 then L.most else b.getD (L.addr + n - 1).toNat 0).toNat = 0
    rw [List.getD_eq_getElem?_getD, h0, Option.getD_some, if_neg (by omega)]; rfl
  refine ⟨hnum, ?_, ?_⟩
  · unfold Lg.plan Lg.steps
    rw [hnum]; rfl
  · rw [putAll, putAll]
    apply List.ext_getElem?
    intro i
    rw [List.getElem?_set]
    split
    · rename_i e; subst e; rw [h0, if_pos (by omega)]
    · rfl

/-- Undoing the entries of a generation gives the old bytes outside of the log. -/
structure Lg.Good (L : Lg) (n : Int) (b0 b : List Int) : Prop where
  len : b.length = b0.length
  out : ∀ i : Nat, ((i : Int) < L.addr ∨ L.addr + (3 + 4 * L.most) ≤ i) → (putAll b (L.plan b n))[i]? = b0[i]?
theorem Lg.Good.inside {b0 b b' : List Int} (h : L.Good n b0 b) (hl : b'.length = b.length) (hp : L.plan b' n = L.plan b n)
    (ho : ∀ i : Nat, ((i : Int) < L.addr ∨ L.addr + (3 + 4 * L.most) ≤ i) → b'[i]? = b[i]?) : L.Good n b0 b' := by
  refine ⟨hl.trans h.len, fun i hi => ?_⟩
  rw [hp, ← h.out i hi]
  by_cases he : ∃ p ∈ L.plan b n, p.1.toNat = i
  · exact putAll_det _ _ _ hl he
  · have hne : ∀ q ∈ L.plan b n, q.1.toNat ≠ i := fun q hq e => he ⟨q, hq, e⟩
    rw [putAll_out _ _ hne, putAll_out _ _ hne, ho i hi]
theorem Lg.Good.covered {b0 b : List Int} (h : L.Good n b0 b) (hok : L.Ok b.length) (qs : List (Int × Int))
    (hq : ∀ q ∈ qs, 0 ≤ q.1 ∧ (q.1 < L.addr ∨ L.addr + (3 + 4 * L.most) ≤ q.1) ∧ ∃ p ∈ L.plan b n, p.1 = q.1) : L.Good n b0 (putAll b qs) ∧ L.plan (putAll b qs) n = L.plan b n := by
  have hp : L.plan (putAll b qs) n = L.plan b n := Lg.plan_agree hok (putAll_len _ _) (fun i h1 h2 => putAll_out _ _ (fun p hp e => by have := hq p hp; omega))
  refine ⟨⟨(putAll_len _ _).trans h.len, fun i hi => ?_⟩, hp⟩
  rw [hp, putAll_again b (fun q hqq => by obtain ⟨-, -, p, hp, e⟩ := hq q hqq; exact ⟨p, hp, by rw [e]⟩)]
  exact h.out i hi

theorem Mem.puts_cases {b : List Int} {ar : Bool} {left : Nat} {wr : Int} (ps : List (Int × Int)) (hin : ∀ p ∈ ps, 0 ≤ p.1 ∧ p.1 < b.length) (h0 : 0 ≤ wr ∧ wr ≤ 900000000000) (hl : left ≤ 1000) (hln : ps.length ≤ 900) :
    (∃ left' : Nat, left' ≤ 1000 ∧ (mem b false ar left wr).puts ps = (true, mem (putAll b ps) false ar left' (wr + ps.length))) ∨
    (∃ j : Nat, j < ps.length ∧ (mem b false ar left wr).puts ps = (false, mem (putAll b (ps.take j)) true true (0 : Nat) (wr + j))) := by
  cases ar with
  | false => exact .inl ⟨left, hl, by rw [Mem.puts_go false ps b left wr hin h0.1 (by omega) (by simp)]; rfl⟩
  | true =>
    by_cases h : left < ps.length
    · exact .inr ⟨left, h, by rw [Mem.puts_stop ps b left wr hin h0.1 (by omega) h (by omega)]; rfl⟩
    · refine .inl ⟨left - ps.length, by omega, ?_⟩
      rw [Mem.puts_go true ps b left wr hin h0.1 (by omega) (fun _ => by omega)]
      simp only [if_true]
      rw [show ((left - ps.length : Nat) : Int) = (left : Int) - ps.length by omega]

structure Lg.Inv (L : Lg) (n : Int) (b0 : List Int) (t : Nat) (M : Mem) (b : List Int) (off ar : Bool) (left : Nat) (wr : Int) : Prop where
  eq : M = mem b off ar left wr
  ok : L.Ok b.length
  good : L.Good n b0 b
  wr : 0 ≤ wr ∧ wr ≤ 1000 * t
  left : left ≤ 1000

theorem Lg.inv_rollback {b0 b : List Int} {t : Nat} {M : Mem} {ar : Bool} {left : Nat} {wr : Int} (hn : okGen n = true) (ht : t ≤ 100000) (h : L.Inv n b0 t M b false ar left wr) :
    ∃ b' off' ar' left' wr', L.Inv n b0 (t + 1) (L.rollback M n).2 b' off' ar' left' wr' := by
  obtain ⟨rfl, hok, hg, hw, hl⟩ := h
  have h1 := Lg.steps_in (L := L) (M := mem b false ar left wr) hok hn
  have h2 := Lg.steps_len (L := L) (M := mem b false ar left wr) (n := n) hok
  rw [Lg.rollback_puts hok.size rfl hn]
  rw [Lg.plan_eq hok] at h1 h2 ⊢
  rcases Mem.puts_cases (ar := ar) (left := left) (wr := wr) (L.plan b n) h1 (by omega) hl (by omega) with ⟨l', hl', e⟩ | ⟨j, hj, e⟩
  · rw [e]
    obtain ⟨-, e1, e2⟩ := Lg.plan_done hok hn
    refine ⟨_, _, _, _, _, rfl, by rw [putAll_len]; exact hok, ⟨(putAll_len _ _).trans hg.len, fun i hi => ?_⟩, by omega, hl'⟩
    rw [e1, e2]; exact hg.out i hi
  · rw [e]
    obtain ⟨e1, e2⟩ := Lg.plan_stop hok hj
    refine ⟨_, _, _, _, _, rfl, by rw [putAll_len]; exact hok, ⟨(putAll_len _ _).trans hg.len, fun i hi => ?_⟩, by omega, by omega⟩
    rw [e1, e2]; exact hg.out i hi
theorem Lg.inv_end {b0 b : List Int} {t : Nat} {M : Mem} {left : Nat} {wr : Int} (hn : okGen n = true) (ht : t ≤ 100000) (h : L.Inv n b0 t M b false false left wr) :
    ∃ M', L.rollback M n = (0, M') ∧ L.num M' n = 0 ∧ M'.b.length = b.length ∧ M'.b.take L.addr.toNat ++ M'.b.drop (L.addr + (3 + 4 * L.most)).toNat = b0.take L.addr.toNat ++ b0.drop (L.addr + (3 + 4 * L.most)).toNat := by
  obtain ⟨rfl, hok, hg, hw, hl⟩ := h
  obtain ⟨e0, e1, e2⟩ := Lg.plan_done hok hn
  have hr := Lg.rollback_go (L := L) (b := b) (n := n) (ar := false) (left := left) (wr := wr) hok hn (by omega) (by simp)
  refine ⟨_, hr, ?_, putAll_len _ _, ?_⟩
  · rw [← e0]
    exact Lg.agree.num (Lg.agree_on (by rw [putAll_len]; exact hok) rfl (fun _ _ _ => rfl)) (by show L.Ok (putAll b (L.plan b n)).length; rw [putAll_len]; exact hok)
  · obtain ⟨h1, h2, h3, h4⟩ := hok
    show (putAll b (L.plan b n)).take _ ++ (putAll b (L.plan b n)).drop _ = _
    congr 1
    · apply List.ext_getElem?
      intro i
      rw [List.getElem?_take, List.getElem?_take]
      split
      · exact hg.out i (.inl (by omega))
      · rfl
    · apply List.ext_getElem?
      intro i
      rw [List.getElem?_drop, List.getElem?_drop]
      exact hg.out _ (.inr (by omega))
end
end Go.Proofs.Ytkkmiodambfbdaa
