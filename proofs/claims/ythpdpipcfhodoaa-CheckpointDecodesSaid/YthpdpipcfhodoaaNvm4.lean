/- What a memory of chapter 7 holds after a write, in plain lists. No condition. -/
import Derived.Test.YthpdpipcfhodoaaNvm3
namespace Go.Proofs.Ythpdpipcfhodoaa
open Go.RowKit
set_option linter.unusedSimpArgs false
set_option maxHeartbeats 4000000
set_option linter.unusedVariables false

theorem i16_wf {a : Int} (h : (Lit.int .i16 a).wf = true) : -32768 ≤ a ∧ a ≤ 32767 := by
  simp only [Lit.wf, Bool.and_eq_true, decide_eq_true_eq] at h
  exact h
theorem i64_wf {a : Int} (h : (Lit.int .i64 a).wf = true) : -9223372036854775808 ≤ a ∧ a ≤ 9223372036854775807 := by
  simp only [Lit.wf, Bool.and_eq_true, decide_eq_true_eq] at h
  exact h

theorem Fresh.base {w w1 w2 : World} {v : Value} {l : List Int} (h : Fresh w1 w2 v l) (hf : Fr w w1 []) : Fresh w w2 v l := by
  obtain ⟨⟨h1, h2⟩, h3⟩ := h
  refine ⟨⟨h1, ?_⟩, hf.trans h3⟩
  rcases h2 with h2 | ⟨b, cap, cur, hv, hg, r⟩
  · exact .inl h2
  · exact .inr ⟨b, cap, cur, hv, Nat.le_trans hf.size hg, r⟩

theorem own_kept {w w' : World} {base n : Nat} {t : TypeId} {z : Nat} {v : Value} {l : List Value} {S : List Nat} (h : w.ownsRow base t z v n l) (hf : Fr w w' S) (hS : ∀ k, k ∈ S → k < base) : w'.ownsRow base t z v n l := by
  obtain ⟨h1, h2⟩ := h
  refine ⟨h1, h2.imp (fun e => e) ?_⟩
  rintro ⟨b, cap, cur, hv, hg, hh, r⟩
  exact ⟨b, cap, cur, hv, hg, hf.blk hh (fun hm => by have := hS b hm; omega), r⟩

theorem Mem.writeBytes_len (M : Mem) (addr : Int) (l : List Int) : (M.writeBytes addr l).2.b.length = M.b.length := by
  unfold Mem.writeBytes
  split
  · split <;> exact Mem.writeN_len l M addr
  · rfl
theorem Mem.writeBytes_blocks (M : Mem) (addr : Int) (l : List Int) : (M.writeBytes addr l).2.mtr.blocks = M.mtr.blocks := by
  unfold Mem.writeBytes
  split
  · split <;> exact Mem.writeN_blocks l M addr
  · rfl

/-- The list `b` with `l` laid over it from place `k` on. -/
def putL (b : List Int) (k : Nat) (l : List Int) : List Int := b.take k ++ l ++ b.drop (k + l.length)

theorem length_putL {b : List Int} {k : Nat} {l : List Int} (h : k + l.length ≤ b.length) : (putL b k l).length = b.length := by
  simp [putL]; omega

theorem putL_nil (b : List Int) (k : Nat) : putL b k [] = b := by simp [putL]

theorem putL_set {b : List Int} {k : Nat} {x : Int} {l : List Int} (h : k + (l.length + 1) ≤ b.length) : putL (b.set k x) (k + 1) l = putL b k (x :: l) := by
  have hk : k < b.length := by omega
  unfold putL
  rw [List.take_add_one, List.take_set_of_le (Nat.le_refl k), List.drop_set_of_lt (by omega), List.getElem?_set_self hk]
  simp only [List.length_cons, Option.toList, List.append_assoc, List.nil_append, List.cons_append]
  rw [show k + 1 + l.length = k + (l.length + 1) by omega]

theorem drop_putL {b : List Int} {k : Nat} {l : List Int} (h : k + l.length ≤ b.length) : ((putL b k l).drop k).take l.length = l := by
  have hk : (b.take k).length = k := by simp; omega
  unfold putL
  rw [List.append_assoc, List.drop_append_of_le_length (by omega), List.drop_of_length_le (by omega)]
  simp

theorem getD_putL {b : List Int} {k : Nat} {l : List Int} (h : k + l.length ≤ b.length) {j : Nat} (hj : j < l.length) : (putL b k l).getD (k + j) 0 = l.getD j 0 := by
  simp only [putL, List.getD_eq_getElem?_getD, List.getElem?_append, List.length_append, List.length_take]
  rw [if_pos (by omega), if_neg (by omega)]
  congr 2; omega

theorem Mem.writeN_plain {left : Int} : ∀ (l : List Int) (addr : Int) (b : List Int) (wr : Int), 0 ≤ addr → addr + l.length ≤ b.length → b.length ≤ 65536 → 0 ≤ wr → wr + l.length ≤ 1000000 →
    (Mem.mk b false false left .off wr).writeN addr l = (true, ⟨putL b addr.toNat l, false, false, left, .off, wr + l.length⟩) := by
  intro l
  induction l with
  | nil => intro addr b wr h0 h1 h2 h3 h4; simp [Mem.writeN, putL_nil]
  | cons x l ih =>
    intro addr b wr h0 h1 h2 h3 h4
    simp only [List.length_cons] at h1 h4
    have hv : ∀ m w, Mem.valid ⟨b, false, false, left, m, w⟩ addr 1 = true := fun m w => Mem.valid_iff.2 ⟨by omega, by omega, by show addr + 1 ≤ (b.length : Int); omega⟩
    have hw : IntKind.i64.wrap (wr + 1) = wr + 1 := by rw [IntKind.wrap_i64]; omega
    have hwr : (Mem.mk b false false left .off wr).write addr x = (true, ⟨b.set addr.toNat x, false, false, left, .off, wr + 1⟩) := by
      simp [Mem.write, hv, Mtr.tick, hw]
    rw [Mem.writeN, hwr]
    simp only [if_true]
    rw [ih (addr + 1) (b.set addr.toNat x) (wr + 1) (by omega) (by simp; omega) (by simp; omega) (by omega) (by omega)]
    rw [show (addr + 1).toNat = addr.toNat + 1 by omega, putL_set (by omega)]
    simp only [List.length_cons, Int.natCast_add, Int.cast_ofNat_Int]
    rw [show wr + 1 + (l.length : Int) = wr + (l.length + 1) by omega]

theorem Mem.writeN_armed : ∀ (l : List Int) (addr : Int) (b : List Int) (wr : Int) (j : Nat), 0 ≤ addr → addr + l.length ≤ b.length → b.length ≤ 65536 → 0 ≤ wr → wr + l.length ≤ 1000000 → j < l.length →
    (Mem.mk b false true j .off wr).writeN addr l = (false, ⟨putL b addr.toNat (l.take j), true, true, 0, .off, wr + j⟩) := by
  intro l
  induction l with
  | nil => intro addr b wr j h0 h1 h2 h3 h4 h5; simp at h5
  | cons x l ih =>
    intro addr b wr j h0 h1 h2 h3 h4 h5
    simp only [List.length_cons] at h1 h4 h5
    have hv : ∀ (lf : Int) m w, Mem.valid ⟨b, false, true, lf, m, w⟩ addr 1 = true := fun lf m w => Mem.valid_iff.2 ⟨by omega, by omega, by show addr + 1 ≤ (b.length : Int); omega⟩
    have hw : IntKind.i64.wrap (wr + 1) = wr + 1 := by rw [IntKind.wrap_i64]; omega
    cases j with
    | zero =>
      have hwr : (Mem.mk b false true ((0 : Nat) : Int) .off wr).write addr x = (false, ⟨b, true, true, 0, .off, wr⟩) := by
        simp [Mem.write, hv]
      rw [Mem.writeN, hwr]
      simp [putL_nil]
    | succ j =>
      have hl : IntKind.i64.wrap (((j + 1 : Nat) : Int) - 1) = j := by rw [IntKind.wrap_i64]; omega
      have hne : ¬ (((j + 1 : Nat) : Int) = 0) := by omega
      have hwr : (Mem.mk b false true ((j + 1 : Nat) : Int) .off wr).write addr x = (true, ⟨b.set addr.toNat x, false, true, j, .off, wr + 1⟩) := by
        simp only [Mem.write, hv, Mtr.tick, hw, hl, hne]
        simp
      rw [Mem.writeN, hwr]
      simp only [if_true]
      rw [ih (addr + 1) (b.set addr.toNat x) (wr + 1) j (by omega) (by simp; omega) (by simp; omega) (by omega) (by omega) (by omega)]
      rw [show (addr + 1).toNat = addr.toNat + 1 by omega, putL_set (by simp; omega)]
      simp only [List.take_succ_cons, Int.natCast_add, Int.cast_ofNat_Int]
      rw [show wr + 1 + (j : Int) = wr + (j + 1) by omega]

theorem Mem.writeBytes_plain {left addr wr : Int} {l b : List Int} (h0 : 0 ≤ addr) (h1 : addr + l.length ≤ b.length) (h2 : b.length ≤ 65536) (h3 : 0 ≤ wr) (h4 : wr + l.length ≤ 1000000) :
    (Mem.mk b false false left .off wr).writeBytes addr l = (true, ⟨putL b addr.toNat l, false, false, left, .off, wr + l.length⟩) := by
  have hv : (Mem.mk b false false left .off wr).valid addr l.length = true := Mem.valid_iff.2 ⟨h0, by omega, h1⟩
  unfold Mem.writeBytes
  rw [if_pos hv, Mem.writeN_plain l addr b wr h0 h1 h2 h3 h4]
  simp

theorem Mem.writeBytes_armed {addr wr : Int} {l b : List Int} {j : Nat} (h0 : 0 ≤ addr) (h1 : addr + l.length ≤ b.length) (h2 : b.length ≤ 65536) (h3 : 0 ≤ wr) (h4 : wr + l.length ≤ 1000000) (hj : j < l.length) :
    (Mem.mk b false true j .off wr).writeBytes addr l = (false, ⟨putL b addr.toNat (l.take j), true, true, 0, .off, wr + j⟩) := by
  have hv : (Mem.mk b false true j .off wr).valid addr l.length = true := Mem.valid_iff.2 ⟨h0, by omega, h1⟩
  unfold Mem.writeBytes
  rw [if_pos hv, Mem.writeN_armed l addr b wr j h0 h1 h2 h3 h4 hj]
  simp

theorem Mem.writeBytes_off {M : Mem} {addr : Int} {l : List Int} (ho : M.off = true) (hl : l ≠ []) : M.writeBytes addr l = (false, M) := by
  cases l with
  | nil => exact absurd rfl hl
  | cons x l =>
    unfold Mem.writeBytes
    rw [Mem.writeN, Mem.write_bad (.inr ho)]
    simp

theorem Mem.write_on {M : Mem} {a x : Int} (h : (M.write a x).1 = true) : (M.write a x).2.off = false := by
  revert h
  unfold Mem.write
  split
  · simp
  · rename_i h1
    split
    · simp
    · split
      · intro _; simp at h1; exact h1.2
      · simp
theorem Mem.writeN_on (l : List Int) : ∀ {M : Mem} (a : Int), M.off = false → (M.writeN a l).1 = true → (M.writeN a l).2.off = false := by
  induction l with
  | nil => intro M a h _; exact h
  | cons x l ih =>
    intro M a h
    simp only [Mem.writeN]
    split
    · rename_i hb; exact ih _ (Mem.write_on hb)
    · simp
theorem Mem.read_off {M : Mem} {addr : Int} (ho : M.off = true) : M.read addr = 0 := by simp [Mem.read, ho]
theorem Mem.readWord_off {M : Mem} {addr : Int} (ho : M.off = true) : M.readWord addr = 0 := by
  unfold Mem.readWord; rw [Mem.read_off ho, Mem.read_off ho]; split <;> decide

theorem Mem.read_put {left wr addr : Int} {b l : List Int} {off armed : Bool} {m : Mtr} (h0 : 0 ≤ addr) (h1 : addr + l.length ≤ b.length) {j : Nat} (hj : j < l.length) :
    (Mem.mk (putL b addr.toNat l) false armed left m wr).read (addr + j) = l.getD j 0 := by
  have hv : (Mem.mk (putL b addr.toNat l) false armed left m wr).valid (addr + j) 1 = true := Mem.valid_iff.2 ⟨by omega, by omega, by show addr + j + 1 ≤ ((putL b addr.toNat l).length : Int); rw [length_putL (by omega)]; omega⟩
  unfold Mem.read
  rw [if_pos (by simp [hv])]
  rw [show (addr + (j : Int)).toNat = addr.toNat + j by omega, getD_putL (by omega) hj]

theorem wordL_sum (v : Int) (hv : -32768 ≤ v ∧ v ≤ 32767) : IntKind.u8.wrap v + 256 * IntKind.u8.wrap (IntKind.u16.wrap v / 256) = IntKind.u16.wrap v := by
  rw [IntKind.wrap_u8, IntKind.wrap_u8, IntKind.wrap_u16]; omega
theorem i16_u16 (v : Int) (hv : -32768 ≤ v ∧ v ≤ 32767) : IntKind.i16.wrap (IntKind.u16.wrap v) = v := by
  simp [IntKind.wrap, IntKind.bits, IntKind.signed]; omega

theorem new2_calls (n : Int) (w : World) (hn : -9223372036854775808 ≤ n ∧ n ≤ 9223372036854775807) :
    Calls Try.prog 19 #[.int .i64 n] w fun e w' =>
      (n < 1 ∨ 65536 < n) ∧ e = .returned (.tuple #[.pointer none, .int .i64 1]) ∧ Fr w w' [] ∨
      (1 ≤ n ∧ n ≤ 65536) ∧ ∃ g s b0, w.heap.size ≤ g ∧ w.heap.size ≤ s ∧ b0 = List.replicate n.toNat 0 ∧ b0.length = n.toNat ∧ e = .returned (.tuple #[.pointer (some ⟨g, 0, none⟩), .int .i64 0]) ∧ IsMem w' g s ⟨b0, false, false, 0, .off, 0⟩ ∧ Fr w w' [] :=
  (new_calls n w hn).mono fun e w' h => h.imp (fun h => h) fun ⟨h, g, s, hg, hs, he, hm, hf⟩ => ⟨h, g, s, _, hg, hs, rfl, by simp, he, hm, hf⟩


theorem RdB.zeros {w : World} {S : List Nat} {v : Value} {n : Nat} (h : RdB w S v (List.replicate n 0)) :
    ∃ a c, v = .slice a n c ∧ (n = 0 ∨ ∃ b o, a = some ⟨b, o, none⟩ ∧ ∀ j, j < n → w.cell? ⟨b, o + j, none⟩ = some (.int .u8 0)) := by
  obtain ⟨a, c, h1, h2, h3, h4⟩ := h
  rw [List.length_replicate] at h1
  refine ⟨a, c, h1, ?_⟩
  rcases h4 with h4 | ⟨b, o, h4, _, _, h5⟩
  · left; cases n with
    | zero => rfl
    | succ n => simp [List.replicate_succ] at h4
  · refine .inr ⟨b, o, h4, fun j hj => ?_⟩
    rw [h5 j (by simpa using hj)]
    simp [List.getD_eq_getElem?_getD, List.getElem?_replicate, hj]


theorem RdB.take {w : World} {S : List Nat} {a : Option Addr} {c : Nat} {l : List Int} (h : RdB w S (.slice a l.length c) l) {j : Nat} (hj : j ≤ l.length) : RdB w S (.slice a j c) (l.take j) := by
  obtain ⟨a', c', h1, h2, h3, h4⟩ := h
  cases h1
  refine ⟨a, c, by simp [List.length_take, Nat.min_eq_left hj], by simp; omega, fun x hx => h3 x (List.mem_of_mem_take hx), ?_⟩
  rcases h4 with h4 | ⟨b, o, h4, h5, h6, h7⟩
  · left; simp [h4]
  · refine .inr ⟨b, o, h4, h5, h6, fun i hi => ?_⟩
    rw [List.length_take] at hi
    rw [h7 i (by omega)]
    congr 2
    simp only [List.getD_eq_getElem?_getD]
    rw [List.getElem?_take_of_lt (by omega)]

theorem cutA_zero {b o c size : Nat} (hc : c ≠ 0) : cutA (some ⟨b, o, none⟩) 0 c size = some ⟨b, o, none⟩ := by
  unfold cutA
  rw [if_neg hc]
  simp [Addr.add]

theorem rest_zero {b0 : List Int} {a j n m : Nat} {p : List Int} (hb : b0 = List.replicate m 0) (hp : p.length = j) (hm : a + n ≤ m) (hj : j ≤ n) : ((putL b0 a p).drop (a + j)).take (n - j) = List.replicate (n - j) 0 := by
  subst hb hp
  have hk : ((List.replicate m (0 : Int)).take a).length = a := by simp; omega
  unfold putL
  rw [List.drop_append, List.drop_append, List.length_append, hk]
  rw [List.drop_of_length_le (by omega), List.drop_of_length_le (by omega)]
  simp; omega


/-- Bytes of one's own, in a row of cells. -/
theorem own_row {w : World} {base n : Nat} {v : Value} {l : List Int} (h : w.ownsRow base 5 1 v n (bytesV l)) (hn : l.length = n) (hne : 0 < n) : ∃ b cap cur, v = .slice (some ⟨b, 0, none⟩) n cap ∧ base ≤ b ∧ w.heap[b]? = some (.cells cur 5 (0, 0)) ∧ 0 < cur.size ∧ cur[0]? = some (.int .u8 (l.getD 0 0)) := by
  obtain ⟨h1, h2⟩ := h
  rcases h2 with ⟨rfl, h0⟩ | ⟨g, cap, cur, rfl, hg, hh, hc, hm, hs, ht⟩
  · omega
  · refine ⟨g, cap, cur, rfl, hg, hh, by omega, ?_⟩
    have h3 : (cur.toList.take (n * 1))[0]? = (bytesV l)[0]? := by rw [ht]
    rw [List.getElem?_take_of_lt (by omega)] at h3
    rw [← Array.getElem?_toList, h3]
    cases l with
    | nil => simp at hn; omega
    | cons x l => rfl


end Go.Proofs.Ythpdpipcfhodoaa
