/- Plain laws of the log: a rollback as a list of byte writes. No condition. -/
import Derived.Test.YtkkmiodambfbdaaUndo5
import Derived.Test.YtkkmiodambfbdaaPuts
namespace Go.Proofs.Ytkkmiodambfbdaa
open Go.RowKit
set_option linter.unusedSimpArgs false
set_option maxHeartbeats 4000000
set_option linter.unusedVariables false

section
variable {L : Lg}
/-- The byte writes that undo entries. -/
def Lg.undoP (L : Lg) : List (Int × Int) → List (Int × Int)
  | [] => []
  | p :: ps => (if L.can p.1 = true then addrL p.1 (wordL p.2) else []) ++ L.undoP ps
/-- The byte writes of a rollback. -/
def Lg.steps (L : Lg) (M : Mem) (n : Int) : List (Int × Int) := L.undoP (L.back M (L.num M n)) ++ [(L.addr + n - 1, 0)]

theorem Lg.undo_puts : ∀ (ps : List (Int × Int)) (M : Mem), L.size = M.b.length → M.off = false → L.undo ps M = M.puts (L.undoP ps) := by
  intro ps
  induction ps with
  | nil => intro M _ _; rfl
  | cons p ps ih =>
    intro M hs ho
    rw [Lg.undo, Lg.undoP]
    by_cases hc : L.can p.1 = true
    · rw [if_pos hc, if_pos hc, Mem.puts_append]
      obtain ⟨h1, h2, -⟩ := of_decide_eq_true hc
      have hv : M.valid p.1 (wordL p.2).length = true := Mem.valid_iff.2 ⟨h1, by omega, by show p.1 + 2 ≤ _; omega⟩
      rw [Mem.writeBytes_puts ho hv]
      by_cases h : (M.puts (addrL p.1 (wordL p.2))).1 = true
      · rw [if_pos h, if_pos h]
        exact ih _ (by rw [Mem.puts_len]; exact hs) (Mem.puts_on _ _ ho h)
      · rw [if_neg h, if_neg h]
        exact Prod.ext (by simpa using h) rfl
    · rw [if_neg hc, if_neg hc, List.nil_append]
      exact ih M hs ho
theorem Lg.rollback_puts {M : Mem} {n : Int} (hs : L.size = M.b.length) (ho : M.off = false) (hn : okGen n = true) :
    L.rollback M n = (errOf (M.puts (L.steps M n)).1, (M.puts (L.steps M n)).2) := by
  unfold Lg.rollback Lg.steps
  rw [if_neg (by simp [hn]), Lg.undo_puts _ M hs ho, Mem.puts_append]
  by_cases h : (M.puts (L.undoP (L.back M (L.num M n)))).1 = true
  · rw [if_neg (by simp [h]), if_pos h]
    unfold Lg.clear
    rw [if_neg (by simp [hn])]
    simp only [Mem.puts]
    split
    · rename_i h2; rw [h2]
    · rename_i h2; rw [Bool.not_eq_true] at h2; rw [h2]
  · rw [if_neg h]
    rw [Bool.not_eq_true] at h
    rw [if_pos h, h]; rfl

/-- Two memories agree in the bytes of the log. -/
def Lg.agree (L : Lg) (M M' : Mem) : Prop := M'.b.length = M.b.length ∧ ∀ i, L.addr ≤ i → i < L.addr + (3 + 4 * L.most) → M'.read i = M.read i
theorem Lg.agree.num {M M' : Mem} (h : L.agree M M') {n : Int} (hok : L.Ok M.b.length) : L.num M' n = L.num M n := by
  unfold Lg.num
  by_cases hn : okGen n = true
  · have h1 := of_decide_eq_true hn
    have h2 := hok.most
    rw [if_pos hn, if_pos hn]
    unfold Lg.count
    rw [h.2 _ (by omega) (by omega)]
  · rw [if_neg hn, if_neg hn]
theorem Mem.readWord_eq {M M' : Mem} {a : Int} (hl : M'.b.length = M.b.length) (h0 : M'.read a = M.read a) (h1 : M'.read (a + 1) = M.read (a + 1)) : M'.readWord a = M.readWord a := by
  unfold Mem.readWord
  rw [show M'.valid a 2 = M.valid a 2 by unfold Mem.valid; rw [hl], h0, h1]
theorem Lg.num_le {M : Mem} {n : Int} (h0 : 0 ≤ L.most) : (L.num M n : Int) ≤ L.most := by
  unfold Lg.num
  split
  · unfold Lg.count; split <;> omega
  · simpa using h0
theorem Lg.agree.back {M M' : Mem} (h : L.agree M M') {N : Nat} (hN : (N : Int) ≤ L.most) : L.back M' N = L.back M N := by
  unfold Lg.back
  apply List.map_congr_left
  intro i hi
  have hi' : i < N := by simpa using hi
  have e : L.entry i = L.addr + 3 + 4 * i := rfl
  rw [Mem.readWord_eq h.1 (h.2 _ (by omega) (by omega)) (h.2 _ (by omega) (by omega)), Mem.readWord_eq h.1 (h.2 _ (by omega) (by omega)) (h.2 _ (by omega) (by omega))]
theorem Lg.agree.steps {M M' : Mem} (h : L.agree M M') {n : Int} (hok : L.Ok M.b.length) : L.steps M' n = L.steps M n := by
  unfold Lg.steps
  rw [h.num hok, h.back (Lg.num_le (by have := hok.most; omega))]

theorem addrL_word (a x : Int) : addrL a (wordL x) = [(a, IntKind.u8.wrap x), (a + 1, IntKind.u8.wrap (IntKind.u16.wrap x / 256))] := rfl
/-- The writes that undo entries stay in the memory and outside of the log. -/
theorem Lg.undoP_out : ∀ (ps : List (Int × Int)) (q : Int × Int), q ∈ L.undoP ps → 0 ≤ q.1 ∧ q.1 < L.size ∧ (q.1 < L.addr ∨ L.addr + (3 + 4 * L.most) ≤ q.1) := by
  intro ps
  induction ps with
  | nil => intro q h; simp [Lg.undoP] at h
  | cons p ps ih =>
    intro q h
    rw [Lg.undoP, List.mem_append] at h
    rcases h with h | h
    · split at h
      · rename_i hc
        obtain ⟨h1, h2, h3⟩ := of_decide_eq_true hc
        rw [addrL_word] at h
        simp only [List.mem_cons, List.not_mem_nil, or_false] at h
        rcases h with rfl | rfl
        · show 0 ≤ p.1 ∧ p.1 < L.size ∧ _; omega
        · show 0 ≤ p.1 + 1 ∧ p.1 + 1 < L.size ∧ (p.1 + 1 < L.addr ∨ _ ≤ p.1 + 1); omega
      · simp at h
    · exact ih q h
theorem Lg.steps_in {M : Mem} {n : Int} (hok : L.Ok M.b.length) (hn : okGen n = true) : ∀ p ∈ L.steps M n, 0 ≤ p.1 ∧ p.1 < M.b.length := by
  intro p hp
  obtain ⟨h1, h2, h3, h4⟩ := hok
  have hg := of_decide_eq_true hn
  unfold Lg.steps at hp
  rcases List.mem_append.1 hp with hp | hp
  · have := Lg.undoP_out _ p hp; omega
  · rw [List.mem_singleton] at hp; subst hp; show 0 ≤ L.addr + n - 1 ∧ L.addr + n - 1 < _; omega
theorem Lg.undoP_len : ∀ ps : List (Int × Int), (L.undoP ps).length ≤ 2 * ps.length := by
  intro ps
  induction ps with
  | nil => simp [Lg.undoP]
  | cons p ps ih =>
    rw [Lg.undoP, List.length_append, List.length_cons]
    split
    · rw [addrL_word]; simp only [List.length_cons, List.length_nil]; omega
    · simp only [List.length_nil]; omega
theorem Lg.steps_len {M : Mem} {n : Int} (hok : L.Ok M.b.length) : (L.steps M n).length ≤ 511 := by
  have h1 := Lg.num_le (L := L) (M := M) (n := n) (by have := hok.most; omega)
  have h2 := Lg.undoP_len (L := L) (L.back M (L.num M n))
  have h3 := hok.most
  rw [Lg.back_len] at h2
  unfold Lg.steps
  rw [List.length_append, List.length_singleton]
  omega

/-- A memory without a meter. -/
abbrev mem (b : List Int) (off armed : Bool) (left wr : Int) : Mem := ⟨b, off, armed, left, .off, wr⟩
theorem Lg.agree_on {b b' : List Int} {ar ar' : Bool} {l l' wr wr' : Int} (hok : L.Ok b.length) (hl : b'.length = b.length)
    (h : ∀ i : Nat, L.addr ≤ i → i < L.addr + (3 + 4 * L.most) → b'[i]? = b[i]?) : L.agree (mem b false ar l wr) (mem b' false ar' l' wr') := by
  obtain ⟨h1, h2, h3, h4⟩ := hok
  refine ⟨hl, fun i hi hj => ?_⟩
  rw [Mem.read_on rfl (by omega) (by show i < (b'.length : Int); omega), Mem.read_on rfl (by omega) (by show i < (b.length : Int); omega)]
  show b'.getD i.toNat 0 = b.getD i.toNat 0
  rw [List.getD_eq_getElem?_getD, List.getD_eq_getElem?_getD, h i.toNat (by omega) (by omega)]
/-- What a rollback writes, by the bytes alone. -/
def Lg.plan (L : Lg) (b : List Int) (n : Int) : List (Int × Int) := L.steps (mem b false false 0 0) n
theorem Lg.plan_eq {b : List Int} {n : Int} {ar : Bool} {l wr : Int} (hok : L.Ok b.length) : L.steps (mem b false ar l wr) n = L.plan b n :=
  Lg.agree.steps (Lg.agree_on hok rfl (fun _ _ _ => rfl)) hok
theorem Lg.plan_agree {b b' : List Int} {n : Int} (hok : L.Ok b.length) (hl : b'.length = b.length)
    (h : ∀ i : Nat, L.addr ≤ i → i < L.addr + (3 + 4 * L.most) → b'[i]? = b[i]?) : L.plan b' n = L.plan b n :=
  Lg.agree.steps (Lg.agree_on hok hl h) hok

/-- A rollback without a power failure. -/
theorem Lg.rollback_go {b : List Int} {ar : Bool} {left wr : Int} {n : Int} (hok : L.Ok b.length) (hn : okGen n = true) (h0 : 0 ≤ wr ∧ wr ≤ 900000000000)
    (ha : ar = true → (L.plan b n).length ≤ left ∧ left ≤ 9223372036854775807) :
    L.rollback (mem b false ar left wr) n = (0, mem (putAll b (L.plan b n)) false ar (if ar = true then left - (L.plan b n).length else left) (wr + (L.plan b n).length)) := by
  have h1 := Lg.steps_in (L := L) (M := mem b false ar left wr) hok hn
  have h2 := Lg.steps_len (L := L) (M := mem b false ar left wr) (n := n) hok
  rw [Lg.rollback_puts hok.size rfl hn]
  rw [Lg.plan_eq hok] at h1 h2 ⊢
  rw [Mem.puts_go ar _ b left wr h1 h0.1 (by omega) ha]
  rfl
/-- A rollback that a power failure ends. -/
theorem Lg.rollback_stop {b : List Int} {j : Nat} {wr : Int} {n : Int} (hok : L.Ok b.length) (hn : okGen n = true) (h0 : 0 ≤ wr ∧ wr ≤ 900000000000)
    (hj : j < (L.plan b n).length) : L.rollback (mem b false true j wr) n = (9, mem (putAll b ((L.plan b n).take j)) true true 0 (wr + j)) := by
  have h1 := Lg.steps_in (L := L) (M := mem b false true j wr) hok hn
  have h2 := Lg.steps_len (L := L) (M := mem b false true j wr) (n := n) hok
  rw [Lg.rollback_puts hok.size rfl hn]
  rw [Lg.plan_eq hok] at h1 h2 ⊢
  rw [Mem.puts_stop _ b j wr h1 h0.1 (by omega) hj (by omega)]
  rfl

theorem Lg.plan_take {b : List Int} {n : Int} {j : Nat} (hj : j < (L.plan b n).length) : ∀ q ∈ (L.plan b n).take j, 0 ≤ q.1 ∧ q.1 < L.size ∧ (q.1 < L.addr ∨ L.addr + (3 + 4 * L.most) ≤ q.1) := by
  unfold Lg.plan Lg.steps at hj ⊢
  rw [List.length_append, List.length_singleton] at hj
  rw [List.take_append_of_le_length (by omega)]
  exact fun q hq => Lg.undoP_out _ q (List.mem_of_mem_take hq)
/-- After a rollback that was stopped the plan is the same, and so is what it makes. -/
theorem Lg.plan_stop {b : List Int} {n : Int} {j : Nat} (hok : L.Ok b.length) (hj : j < (L.plan b n).length) :
    L.plan (putAll b ((L.plan b n).take j)) n = L.plan b n ∧ putAll (putAll b ((L.plan b n).take j)) (L.plan b n) = putAll b (L.plan b n) := by
  refine ⟨Lg.plan_agree hok (putAll_len _ _) (fun i h1 h2 => putAll_out _ _ (fun p hp e => ?_)), putAll_again b (fun q hq => ⟨q, List.mem_of_mem_take hq, rfl⟩)⟩
  have := Lg.plan_take hj p hp
  omega
/-- After a rollback there is nothing to undo. -/
theorem Lg.plan_done {b : List Int} {n : Int} (hok : L.Ok b.length) (hn : okGen n = true) :
    L.num (mem (putAll b (L.plan b n)) false false 0 0) n = 0 ∧ L.plan (putAll b (L.plan b n)) n = [(L.addr + n - 1, 0)] ∧ putAll (putAll b (L.plan b n)) [(L.addr + n - 1, 0)] = putAll b (L.plan b n) := by
  obtain ⟨h1, h2, h3, h4⟩ := hok
  have hg := of_decide_eq_true hn
  have e : putAll b (L.plan b n) = (putAll b (L.undoP (L.back (mem b false false 0 0) (L.num (mem b false false 0 0) n)))).set (L.addr + n - 1).toNat 0 := by
    unfold Lg.plan Lg.steps
    rw [putAll_append]; rfl
  generalize hb' : putAll b (L.undoP (L.back (mem b false false 0 0) (L.num (mem b false false 0 0) n))) = b' at e
  have hl : b'.length = b.length := by rw [← hb', putAll_len]
  rw [e]
  have hnum : L.num (mem (b'.set (L.addr + n - 1).toNat 0) false false 0 0) n = 0 := by
    unfold Lg.num Lg.count
    rw [if_pos hn, Mem.read_on rfl (by omega) (by show _ < ((b'.set _ 0).length : Int); rw [List.length_set]; omega)]
    have : (b'.set (L.addr + n - 1).toNat 0).getD (L.addr + n - 1).toNat 0 = 0 := by
      rw [List.getD_eq_getElem?_getD, List.getElem?_set_self (by omega)]; rfl
    show (if L.most < (b'.set (L.addr + n - 1).toNat 0).getD (L.addr + n - 1).toNat 0 then L.most else (b'.set (L.addr + n - 1).toNat 0).getD (L.addr + n - 1).toNat 0).toNat = 0
    rw [this, if_neg (by omega)]; rfl
  refine ⟨hnum, ?_, ?_⟩
  · unfold Lg.plan Lg.steps
    rw [hnum]; rfl
  · simp [putAll]
end
end Go.Proofs.Ytkkmiodambfbdaa
