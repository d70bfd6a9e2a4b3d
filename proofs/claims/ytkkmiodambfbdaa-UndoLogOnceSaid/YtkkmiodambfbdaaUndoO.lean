/- Plain laws of the log: a word is saved once. No condition. -/
import Derived.Test.YtkkmiodambfbdaaUndoG
namespace Go.Proofs.Ytkkmiodambfbdaa
open Go.RowKit
set_option linter.unusedSimpArgs false
set_option maxHeartbeats 4000000
set_option linter.unusedVariables false

section
variable {L : Lg} {n : Int}
/-- What a save does, case by case, when the power stays on. -/
theorem Lg.once {b : List Int} {wr : Int} (n a : Int) (hok : L.Ok b.length) (hn : okGen n = true) (hby : ∀ x ∈ b, 0 ≤ x ∧ x < 256) (hsz : b.length ≤ 65536) (hw : 0 ≤ wr ∧ wr ≤ 1000000) :
    (L.can a = false ∧ L.save (mem b false false 0 wr) n a = (1, mem b false false 0 wr)) ∨
    (L.can a = true ∧ a ∈ L.addrs (mem b false false 0 wr) (L.num (mem b false false 0 wr) n) ∧ L.save (mem b false false 0 wr) n a = (0, mem b false false 0 wr)) ∨
    (L.can a = true ∧ a ∉ L.addrs (mem b false false 0 wr) (L.num (mem b false false 0 wr) n) ∧ (L.num (mem b false false 0 wr) n : Int) = L.most ∧ L.save (mem b false false 0 wr) n a = (7, mem b false false 0 wr)) ∨
    (L.can a = true ∧ a ∉ L.addrs (mem b false false 0 wr) (L.num (mem b false false 0 wr) n) ∧ (L.num (mem b false false 0 wr) n : Int) ≠ L.most ∧
      L.save (mem b false false 0 wr) n a = (0, mem (putAll b (L.saveP (mem b false false 0 wr) n a)) false false 0 (wr + 5))) := by
  by_cases e1 : L.can a = false
  · exact .inl ⟨e1, by unfold Lg.save; rw [if_pos (.inr e1)]⟩
  have hc : L.can a = true := by simpa using e1
  have e0 : ¬ (okGen n = false ∨ L.can a = false) := by simp [hn, hc]
  refine .inr ?_
  by_cases e2 : a ∈ L.addrs (mem b false false 0 wr) (L.num (mem b false false 0 wr) n)
  · exact .inl ⟨hc, e2, by unfold Lg.save; rw [if_neg e0, if_pos e2]⟩
  refine .inr ?_
  by_cases e3 : (L.num (mem b false false 0 wr) n : Int) = L.most
  · exact .inl ⟨hc, e2, e3, by unfold Lg.save; rw [if_neg e0, if_neg e2, if_pos e3]⟩
  refine .inr ⟨hc, e2, e3, ?_⟩
  rw [Lg.save_puts (M := mem b false false 0 wr) hok rfl hn hc e2 e3]
  obtain ⟨h1, h2, hf, h4⟩ := id hok
  obtain ⟨c1, c2, c3⟩ := of_decide_eq_true hc
  have hgn := of_decide_eq_true hn
  have hNle := Lg.num_le (L := L) (M := mem b false false 0 wr) (n := n) (by omega)
  have hE : L.entry (L.num (mem b false false 0 wr) n) = L.addr + 3 + 4 * (L.num (mem b false false 0 wr) n : Int) := rfl
  have hrl : (L.record (mem b false false 0 wr) a).length = 4 := by
    unfold Lg.record
    rw [Mem.readBytes_on (Mem.valid_iff.2 ⟨by omega, by omega, by show a + 2 ≤ (b.length : Int); omega⟩) rfl]
    simp; omega
  have hlen : (L.saveP (mem b false false 0 wr) n a).length = 5 := by
    unfold Lg.saveP; rw [List.length_append, addrL_len, hrl]; rfl
  have hin : ∀ p ∈ L.saveP (mem b false false 0 wr) n a, 0 ≤ p.1 ∧ p.1 < b.length := by
    intro p hp
    unfold Lg.saveP at hp
    rcases List.mem_append.1 hp with hp | hp
    · have := addrL_mem _ _ p hp
      rw [hrl] at this; omega
    · rw [List.mem_singleton] at hp; subst hp
      show 0 ≤ L.addr + n - 1 ∧ L.addr + n - 1 < _; omega
  rw [Mem.puts_go false _ b 0 wr hin hw.1 (by omega) (by simp), hlen]
  rfl
theorem Lg.save_addrs {b : List Int} {a : Int} (hok : L.Ok b.length) (hn : okGen n = true) (hby : ∀ x ∈ b, 0 ≤ x ∧ x < 256) (hsz : b.length ≤ 65536) (hc : L.can a = true)
    {N E C : Nat} (hN : L.num (mem b false false 0 0) n = N) (hE : L.entry N = E) (hC : L.addr + n - 1 = C) (h3 : (N : Int) < L.most) {b' : List Int}
    (hb' : b' = putAll b (addrL (E : Int) [IntKind.u8.wrap a, IntKind.u8.wrap (a / 256), b.getD a.toNat 0, b.getD (a.toNat + 1) 0] ++ [((C : Int), IntKind.u8.wrap ((N : Int) + 1))])) :
    L.num (mem b' false false 0 0) n = N + 1 ∧ L.addrs (mem b' false false 0 0) (N + 1) = L.addrs (mem b false false 0 0) N ++ [a] := by
  obtain ⟨h1, h2, hf, h4⟩ := hok
  have hok' : L.Ok b.length := ⟨h1, h2, hf, h4⟩
  have hg := of_decide_eq_true hn
  obtain ⟨c1, c2, c3⟩ := of_decide_eq_true hc
  have hE' : (E : Int) = L.addr + 3 + 4 * N := by rw [← hE]; rfl
  have hl : b'.length = b.length := by rw [hb', putAll_len]
  have hget := fun i => four_sets (b := b) (E := E) (C := C) (r0 := IntKind.u8.wrap a) (r1 := IntKind.u8.wrap (a / 256)) (r2 := b.getD a.toNat 0) (r3 := b.getD (a.toNat + 1) 0) (c := IntKind.u8.wrap ((N : Int) + 1)) (by omega) (by omega) i
  rw [← hb'] at hget
  have hx2 := getD_in hby a.toNat
  have hx3 := getD_in hby (a.toNat + 1)
  have hu : IntKind.u8.wrap ((N : Int) + 1) = (N : Int) + 1 := by rw [IntKind.wrap_u8]; omega
  have ha0 : 0 ≤ IntKind.u8.wrap a ∧ IntKind.u8.wrap a < 256 := by rw [IntKind.wrap_u8]; omega
  have ha1 : 0 ≤ IntKind.u8.wrap (a / 256) ∧ IntKind.u8.wrap (a / 256) < 256 := by rw [IntKind.wrap_u8]; omega
  have haa : IntKind.u8.wrap a + 256 * IntKind.u8.wrap (a / 256) = a := by rw [IntKind.wrap_u8, IntKind.wrap_u8]; omega
  generalize b.getD a.toNat 0 = x2 at *
  generalize b.getD (a.toNat + 1) 0 = x3 at *
  generalize IntKind.u8.wrap a = y0 at *
  generalize IntKind.u8.wrap (a / 256) = y1 at *
  rw [hu] at hget
  have hrd : ∀ i : Nat, i < b.length → (mem b' false false 0 0).read (i : Int) = (b'[i]?).getD 0 := by
    intro i hi
    rw [Mem.read_on rfl (by omega) (by show (i : Int) < (b'.length : Int); omega)]
    show b'.getD (i : Int).toNat 0 = _
    rw [List.getD_eq_getElem?_getD, Int.toNat_natCast]
  have hnum : L.num (mem b' false false 0 0) n = N + 1 := by
    unfold Lg.num Lg.count
    rw [if_pos hn, hC, hrd C (by omega), hget, if_pos rfl, Option.getD_some]
    split <;> omega
  have hw0 : (mem b' false false 0 0).readWord (L.entry N) = IntKind.i16.wrap (y0 + 256 * y1) := by
    unfold Mem.readWord
    rw [hE, if_pos (Mem.valid_iff.2 ⟨by omega, by omega, by show (E : Int) + 2 ≤ (b'.length : Int); omega⟩), hrd E (by omega), show (E : Int) + 1 = ((E + 1 : Nat) : Int) by omega, hrd (E + 1) (by omega), hget, hget,
      if_neg (by omega), if_pos rfl, if_neg (by omega), if_neg (by omega), if_pos rfl]; rfl
  refine ⟨hnum, ?_⟩
  rw [Lg.addrs_snoc, hw0, (word_back ha0 ha1).2, haa]
  congr 1
  unfold Lg.addrs
  apply List.map_congr_left
  intro i hi
  have hi' : i < N := by simpa using hi
  have e : L.entry i = L.addr + 3 + 4 * i := rfl
  obtain ⟨I, hI⟩ : ∃ I : Nat, L.entry i = I := ⟨(L.entry i).toNat, by omega⟩
  have hr : ∀ k : Nat, k < 4 → (mem b' false false 0 0).read ((I + k : Nat) : Int) = (mem b false false 0 0).read ((I + k : Nat) : Int) := by
    intro k hk
    rw [hrd _ (by omega), hget, if_neg (by omega), if_neg (by omega), if_neg (by omega), if_neg (by omega), if_neg (by omega), Mem.read_on rfl (by omega) (by show ((I + k : Nat) : Int) < (b.length : Int); omega)]
    show _ = b.getD ((I + k : Nat) : Int).toNat 0
    rw [List.getD_eq_getElem?_getD, Int.toNat_natCast]
  rw [hI, Mem.readWord_eq (M := mem b false false 0 0) (a := (I : Int)) hl (hr 0 (by omega)) (hr 1 (by omega))]
theorem Lg.agree.addrs {M M' : Mem} (h : L.agree M M') {N : Nat} (hN : (N : Int) ≤ L.most) : L.addrs M' N = L.addrs M N := by
  unfold Lg.addrs
  apply List.map_congr_left
  intro i hi
  have hi' : i < N := by simpa using hi
  have e : L.entry i = L.addr + 3 + 4 * i := rfl
  rw [Mem.readWord_eq h.1 (h.2 _ (by omega) (by omega)) (h.2 _ (by omega) (by omega))]
/-- The number and the addresses of a generation, by the bytes alone. -/
def Lg.seen (L : Lg) (b : List Int) (n : Int) : List Int := L.addrs (mem b false false 0 0) (L.num (mem b false false 0 0) n)
theorem Lg.seen_eq {b : List Int} {wr : Int} (hok : L.Ok b.length) : L.addrs (mem b false false 0 wr) (L.num (mem b false false 0 wr) n) = L.seen b n ∧ L.num (mem b false false 0 wr) n = (L.seen b n).length := by
  have hag : L.agree (mem b false false 0 0) (mem b false false 0 wr) := Lg.agree_on hok rfl (fun _ _ _ => rfl)
  have hnum : L.num (mem b false false 0 wr) n = L.num (mem b false false 0 0) n := hag.num hok
  have hle := Lg.num_le (L := L) (M := mem b false false 0 0) (n := n) (by have := hok.most; omega)
  unfold Lg.seen
  rw [hnum, hag.addrs hle, Lg.addrs_len]
  exact ⟨rfl, rfl⟩
theorem Lg.once_new {b : List Int} {wr a : Int} (hok : L.Ok b.length) (hn : okGen n = true) (hby : ∀ x ∈ b, 0 ≤ x ∧ x < 256) (hsz : b.length ≤ 65536) (hc : L.can a = true) (h3 : ((L.seen b n).length : Int) ≠ L.most) :
    (putAll b (L.saveP (mem b false false 0 wr) n a)).length = b.length ∧ L.seen (putAll b (L.saveP (mem b false false 0 wr) n a)) n = L.seen b n ++ [a] := by
  obtain ⟨hs1, hs2⟩ := Lg.seen_eq (n := n) (wr := wr) hok
  obtain ⟨-, hs0⟩ := Lg.seen_eq (n := n) (wr := 0) hok
  obtain ⟨N, hN⟩ : ∃ N, L.num (mem b false false 0 0) n = N := ⟨_, rfl⟩
  have hNle := Lg.num_le (L := L) (M := mem b false false 0 0) (n := n) (by have := hok.most; omega)
  have hN0 : L.num (mem b false false 0 wr) n = N := by rw [hs2, ← hs0, hN]
  rw [hN] at hNle hs0
  obtain ⟨h1, h2, hf, h4⟩ := id hok
  obtain ⟨c1, c2, c3⟩ := of_decide_eq_true hc
  have hgn := of_decide_eq_true hn
  obtain ⟨E, hE⟩ : ∃ E : Nat, L.entry N = E := ⟨(L.entry N).toNat, by unfold Lg.entry; omega⟩
  obtain ⟨C, hC⟩ : ∃ C : Nat, L.addr + n - 1 = C := ⟨(L.addr + n - 1).toNat, by omega⟩
  have hrec : L.record (mem b false false 0 wr) a = [IntKind.u8.wrap a, IntKind.u8.wrap (a / 256), b.getD a.toNat 0, b.getD (a.toNat + 1) 0] := by
    unfold Lg.record
    rw [Mem.readBytes_on (Mem.valid_iff.2 ⟨by omega, by omega, by show a + 2 ≤ (b.length : Int); omega⟩) rfl]
    show _ ++ (b.drop a.toNat).take (2 : Int).toNat = _
    rw [show (2 : Int).toNat = 2 from rfl, take_two (by omega)]; rfl
  have hP : L.saveP (mem b false false 0 wr) n a = addrL (E : Int) [IntKind.u8.wrap a, IntKind.u8.wrap (a / 256), b.getD a.toNat 0, b.getD (a.toNat + 1) 0] ++ [((C : Int), IntKind.u8.wrap ((N : Int) + 1))] := by
    unfold Lg.saveP
    rw [hN0, hE, hC, hrec]
  obtain ⟨k1, k2⟩ := Lg.save_addrs hok hn hby hsz hc hN hE hC (by omega) rfl
  rw [hP]
  refine ⟨putAll_len _ _, ?_⟩
  unfold Lg.seen
  rw [k1, k2, hN]
end
end Go.Proofs.Ytkkmiodambfbdaa
