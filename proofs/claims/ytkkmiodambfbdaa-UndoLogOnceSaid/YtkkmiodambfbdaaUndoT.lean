/- Plain laws of the log: a save, a write of the saved word. No condition. -/
import Derived.Test.YtkkmiodambfbdaaUndoS
namespace Go.Proofs.Ytkkmiodambfbdaa
open Go.RowKit
set_option linter.unusedSimpArgs false
set_option maxHeartbeats 4000000
set_option linter.unusedVariables false

section
variable {L : Lg} {n : Int}
theorem Lg.Inv.later {b0 b : List Int} {t : Nat} {M : Mem} {off ar : Bool} {left : Nat} {wr : Int} (h : L.Inv n b0 t M b off ar left wr) : L.Inv n b0 (t + 1) M b off ar left wr :=
  ⟨h.eq, h.ok, h.good, ⟨h.wr.1, by have := h.wr.2; omega⟩, h.left⟩
theorem getD_in {b : List Int} (h : ∀ x ∈ b, 0 ≤ x ∧ x < 256) (i : Nat) : 0 ≤ b.getD i 0 ∧ b.getD i 0 < 256 := by
  rw [List.getD_eq_getElem?_getD]
  by_cases hi : i < b.length
  · rw [List.getElem?_eq_getElem hi]; exact h _ (List.getElem_mem _)
  · rw [List.getElem?_eq_none (by omega)]; show (0 : Int) ≤ 0 ∧ (0 : Int) < 256; omega
theorem take_two {b : List Int} {k : Nat} (h : k + 2 ≤ b.length) : (b.drop k).take 2 = [b.getD k 0, b.getD (k + 1) 0] := by
  apply List.ext_getElem?
  intro i
  rw [List.getElem?_take, List.getElem?_drop]
  rcases (by omega : i = 0 ∨ i = 1 ∨ 2 ≤ i) with rfl | rfl | hi
  · simp [List.getD_eq_getElem?_getD, List.getElem?_eq_getElem (show k < b.length by omega)]
  · simp [List.getD_eq_getElem?_getD, List.getElem?_eq_getElem (show k + 1 < b.length by omega)]
  · rw [if_neg (by omega), List.getElem?_eq_none (by simp; omega)]

theorem Lg.save_plan {b : List Int} {a : Int} (hok : L.Ok b.length) (hn : okGen n = true) (hby : ∀ x ∈ b, 0 ≤ x ∧ x < 256) (hsz : b.length ≤ 65536) (hc : L.can a = true)
    {N E C : Nat} (hN : L.num (mem b false false 0 0) n = N) (hE : L.entry N = E) (hC : L.addr + n - 1 = C) (h3 : (N : Int) < L.most) {b' : List Int}
    (hb' : b' = putAll b (addrL (E : Int) [IntKind.u8.wrap a, IntKind.u8.wrap (a / 256), b.getD a.toNat 0, b.getD (a.toNat + 1) 0] ++ [((C : Int), IntKind.u8.wrap ((N : Int) + 1))])) :
    L.plan b' n = [(a, b.getD a.toNat 0), (a + 1, b.getD (a.toNat + 1) 0)] ++ L.plan b n ∧ b'.length = b.length ∧ ∀ i : Nat, ((i : Int) < L.addr ∨ L.addr + (3 + 4 * L.most) ≤ i) → b'[i]? = b[i]? := by
  obtain ⟨h1, h2, hf, h4⟩ := hok
  have hok' : L.Ok b.length := ⟨h1, h2, hf, h4⟩
  have hg := of_decide_eq_true hn
  obtain ⟨c1, c2, c3⟩ := of_decide_eq_true hc
  have hE' : (E : Int) = L.addr + 3 + 4 * N := by rw [← hE]; rfl
  have hl : b'.length = b.length := by rw [hb', putAll_len]
  have hget := fun i => four_sets (b := b) (E := E) (C := C) (r0 := IntKind.u8.wrap a) (r1 := IntKind.u8.wrap (a / 256)) (r2 := b.getD a.toNat 0) (r3 := b.getD (a.toNat + 1) 0) (c := IntKind.u8.wrap ((N : Int) + 1)) (by omega) (by omega) i
  rw [← hb'] at hget
  have hx2 := getD_in hby a.toNat
  have hx3 := getD_in hby (a.toNat + 1)
  have hu : IntKind.u8.wrap ((N : Int) + 1) = (N : Int) + 1 := by rw [IntKind.wrap_u8]; omega
  have ha0 : 0 ≤ IntKind.u8.wrap a ∧ IntKind.u8.wrap a < 256 := by rw [IntKind.wrap_u8]; omega
  have ha1 : 0 ≤ IntKind.u8.wrap (a / 256) ∧ IntKind.u8.wrap (a / 256) < 256 := by rw [IntKind.wrap_u8]; omega
  have haa : IntKind.u8.wrap a + 256 * IntKind.u8.wrap (a / 256) = a := by rw [IntKind.wrap_u8, IntKind.wrap_u8]; omega
  generalize b.getD a.toNat 0 = x2 at *
  generalize b.getD (a.toNat + 1) 0 = x3 at *
  generalize IntKind.u8.wrap a = y0 at *
  generalize IntKind.u8.wrap (a / 256) = y1 at *
  rw [hu] at hget
  have hrd : ∀ i : Nat, i < b.length → (mem b' false false 0 0).read (i : Int) = (b'[i]?).getD 0 := by
    intro i hi
    rw [Mem.read_on rfl (by omega) (by show (i : Int) < (b'.length : Int); omega)]
    show b'.getD (i : Int).toNat 0 = _
    rw [List.getD_eq_getElem?_getD, Int.toNat_natCast]
  have hnum : L.num (mem b' false false 0 0) n = N + 1 := by
    unfold Lg.num Lg.count
    rw [if_pos hn, hC, hrd C (by omega), hget, if_pos rfl, Option.getD_some]
    split <;> omega
  have hw0 : (mem b' false false 0 0).readWord (L.entry N) = IntKind.i16.wrap (y0 + 256 * y1) := by
    unfold Mem.readWord
    rw [hE, if_pos (Mem.valid_iff.2 ⟨by omega, by omega, by show (E : Int) + 2 ≤ (b'.length : Int); omega⟩), hrd E (by omega), show (E : Int) + 1 = ((E + 1 : Nat) : Int) by omega, hrd (E + 1) (by omega), hget, hget,
      if_neg (by omega), if_pos rfl, if_neg (by omega), if_neg (by omega), if_pos rfl]; rfl
  have hw1 : (mem b' false false 0 0).readWord (L.entry N + 2) = IntKind.i16.wrap (x2 + 256 * x3) := by
    unfold Mem.readWord
    rw [hE, show (E : Int) + 2 = ((E + 2 : Nat) : Int) by omega, if_pos (Mem.valid_iff.2 ⟨by omega, by omega, by show ((E + 2 : Nat) : Int) + 2 ≤ (b'.length : Int); omega⟩), hrd (E + 2) (by omega), show ((E + 2 : Nat) : Int) + 1 = ((E + 3 : Nat) : Int) by omega, hrd (E + 3) (by omega), hget, hget,
      if_neg (by omega), if_neg (by omega), if_neg (by omega), if_pos rfl, if_neg (by omega), if_neg (by omega), if_neg (by omega), if_neg (by omega), if_pos rfl]; rfl
  have hbk : L.back (mem b' false false 0 0) (N + 1) = (a, IntKind.i16.wrap (x2 + 256 * x3)) :: L.back (mem b' false false 0 0) N := by
    unfold Lg.back
    rw [List.range_succ, List.reverse_append, List.reverse_singleton, List.singleton_append, List.map_cons, hw0, hw1, (word_back ha0 ha1).2, haa]
  have hbN : L.back (mem b' false false 0 0) N = L.back (mem b false false 0 0) N := by
    unfold Lg.back
    apply List.map_congr_left
    intro i hi
    have hi' : i < N := by simpa using hi
    have e : L.entry i = L.addr + 3 + 4 * i := rfl
    obtain ⟨I, hI⟩ : ∃ I : Nat, L.entry i = I := ⟨(L.entry i).toNat, by omega⟩
    have hr : ∀ k : Nat, k < 4 → (mem b' false false 0 0).read ((I + k : Nat) : Int) = (mem b false false 0 0).read ((I + k : Nat) : Int) := by
      intro k hk
      rw [hrd _ (by omega), hget, if_neg (by omega), if_neg (by omega), if_neg (by omega), if_neg (by omega), if_neg (by omega), Mem.read_on rfl (by omega) (by show ((I + k : Nat) : Int) < (b.length : Int); omega)]
      show _ = b.getD ((I + k : Nat) : Int).toNat 0
      rw [List.getD_eq_getElem?_getD, Int.toNat_natCast]
    rw [hI, Mem.readWord_eq (M := mem b false false 0 0) (a := (I : Int)) hl (hr 0 (by omega)) (hr 1 (by omega)), Mem.readWord_eq (M := mem b false false 0 0) (a := (I : Int) + 2) hl (hr 2 (by omega)) (hr 3 (by omega))]
  refine ⟨?_, hl, fun i hi => ?_⟩
  · unfold Lg.plan Lg.steps
    rw [hnum, hN, hbk, Lg.undoP, if_pos hc, hbN, List.append_assoc]
    congr 1
    show addrL a (wordL (IntKind.i16.wrap (x2 + 256 * x3))) = _
    rw [(word_back hx2 hx3).1]; rfl
  · rw [hget, if_neg (by omega), if_neg (by omega), if_neg (by omega), if_neg (by omega), if_neg (by omega)]

theorem Lg.inv_save {b0 b : List Int} {t : Nat} {M : Mem} {off ar : Bool} {left : Nat} {wr a : Int} (hn : okGen n = true) (ht : t ≤ 100000) (hby : ∀ x ∈ b, 0 ≤ x ∧ x < 256) (hsz : b.length ≤ 65536) (h : L.Inv n b0 t M b off ar left wr) :
    ∃ b' off' ar' left' wr', L.Inv n b0 (t + 1) (L.save M n a).2 b' off' ar' left' wr' ∧ ((L.save M n a).1 = 0 → off' = false ∧ L.can a = true ∧ (∃ p ∈ L.plan b' n, p.1 = a) ∧ ∃ p ∈ L.plan b' n, p.1 = a + 1) := by
  have hI := h
  obtain ⟨rfl, hok, hg, hw, hl⟩ := h
  cases off with
  | true =>
    obtain ⟨e1, e2⟩ := Lg.save_off (L := L) (n := n) (a := a) (M := mem b true ar left wr) hok rfl
    exact ⟨b, true, ar, left, wr, by rw [e2]; exact hI.later, fun h => absurd h e1⟩
  | false =>
    have hagree : L.agree (mem b false false 0 0) (mem b false ar left wr) := Lg.agree_on hok rfl (fun _ _ _ => rfl)
    have hN0 : L.num (mem b false ar left wr) n = L.num (mem b false false 0 0) n := hagree.num hok
    obtain ⟨N, hN⟩ : ∃ N, L.num (mem b false false 0 0) n = N := ⟨_, rfl⟩
    rw [hN] at hN0
    have hNle := Lg.num_le (L := L) (M := mem b false false 0 0) (n := n) (by have := hok.most; omega)
    rw [hN] at hNle
    by_cases e1 : okGen n = false ∨ L.can a = false
    · have e : L.save (mem b false ar left wr) n a = (1, mem b false ar left wr) := by unfold Lg.save; rw [if_pos e1]
      rw [e]
      exact ⟨b, false, ar, left, wr, hI.later, fun h => absurd h (by simp)⟩
    have hc : L.can a = true := by cases h : L.can a; exact absurd (.inr h) e1; rfl
    by_cases e2 : a ∈ L.addrs (mem b false ar left wr) N
    · have e : L.save (mem b false ar left wr) n a = (0, mem b false ar left wr) := by unfold Lg.save; rw [if_neg e1, hN0, if_pos e2]
      rw [e]
      refine ⟨b, false, ar, left, wr, hI.later, fun _ => ⟨rfl, hc, ?_⟩⟩
      obtain ⟨i, hi, hai⟩ := List.mem_map.1 e2
      have hi' : i < N := by simpa using hi
      rw [← Lg.plan_eq (ar := ar) (l := left) (wr := wr) hok]
      unfold Lg.steps
      rw [hN0]
      have hmem : (a, (mem b false ar left wr).readWord (L.entry i + 2)) ∈ L.back (mem b false ar left wr) N := by
        unfold Lg.back
        exact List.mem_map.2 ⟨i, by simpa using hi', by rw [hai]⟩
      exact ⟨⟨(a, _), List.mem_append_left _ (Lg.undoP_mem (q := (a, IntKind.u8.wrap ((mem b false ar left wr).readWord (L.entry i + 2)))) (by rw [addrL_word]; simp) hc _ hmem), rfl⟩,
        ⟨(a + 1, _), List.mem_append_left _ (Lg.undoP_mem (q := (a + 1, IntKind.u8.wrap (IntKind.u16.wrap ((mem b false ar left wr).readWord (L.entry i + 2)) / 256))) (by rw [addrL_word]; simp) hc _ hmem), rfl⟩⟩
    by_cases e3 : (N : Int) = L.most
    · have e : L.save (mem b false ar left wr) n a = (7, mem b false ar left wr) := by unfold Lg.save; rw [if_neg e1, hN0, if_neg e2, if_pos e3]
      rw [e]
      exact ⟨b, false, ar, left, wr, hI.later, fun h => absurd h (by simp)⟩
    rw [Lg.save_puts (M := mem b false ar left wr) hok rfl hn hc (by rw [hN0]; exact e2) (by rw [hN0]; exact e3)]
    obtain ⟨h1, h2, hf, h4⟩ := id hok
    obtain ⟨c1, c2, c3⟩ := of_decide_eq_true hc
    have hgn := of_decide_eq_true hn
    obtain ⟨E, hE⟩ : ∃ E : Nat, L.entry N = E := ⟨(L.entry N).toNat, by unfold Lg.entry; omega⟩
    obtain ⟨C, hC⟩ : ∃ C : Nat, L.addr + n - 1 = C := ⟨(L.addr + n - 1).toNat, by omega⟩
    have hE' : (E : Int) = L.addr + 3 + 4 * N := by rw [← hE]; rfl
    have hrec : L.record (mem b false ar left wr) a = [IntKind.u8.wrap a, IntKind.u8.wrap (a / 256), b.getD a.toNat 0, b.getD (a.toNat + 1) 0] := by
      unfold Lg.record
      rw [Mem.readBytes_on (Mem.valid_iff.2 ⟨by omega, by omega, by show a + 2 ≤ (b.length : Int); omega⟩) rfl]
      show _ ++ (b.drop a.toNat).take (2 : Int).toNat = _
      rw [show (2 : Int).toNat = 2 from rfl, take_two (by omega)]; rfl
    have hP : L.saveP (mem b false ar left wr) n a = addrL (E : Int) [IntKind.u8.wrap a, IntKind.u8.wrap (a / 256), b.getD a.toNat 0, b.getD (a.toNat + 1) 0] ++ [((C : Int), IntKind.u8.wrap ((N : Int) + 1))] := by
      unfold Lg.saveP
      rw [hN0, hE, hC, hrec]
    rw [hP]
    have hin4 : ∀ p ∈ addrL (E : Int) [IntKind.u8.wrap a, IntKind.u8.wrap (a / 256), b.getD a.toNat 0, b.getD (a.toNat + 1) 0], (E : Int) ≤ p.1 ∧ p.1 < E + 4 := fun p hp => by
      have := addrL_mem _ _ p hp; simpa using this
    rcases Mem.puts_cases (b := b) (ar := ar) (left := left) (wr := wr) (addrL (E : Int) [IntKind.u8.wrap a, IntKind.u8.wrap (a / 256), b.getD a.toNat 0, b.getD (a.toNat + 1) 0] ++ [((C : Int), IntKind.u8.wrap ((N : Int) + 1))]) (fun p hp => by
        rcases List.mem_append.1 hp with hp | hp
        · have := hin4 p hp; omega
        · rw [List.mem_singleton] at hp; subst hp; show 0 ≤ (C : Int) ∧ (C : Int) < _; omega) (by omega) hl (by simp [addrL]) with ⟨l', hl', e⟩ | ⟨j, hj, e⟩
    · obtain ⟨p1, p2, p3⟩ := Lg.save_plan hok hn hby hsz hc hN hE hC (by omega) rfl
      rw [e]
      generalize putAll b (addrL (E : Int) [IntKind.u8.wrap a, IntKind.u8.wrap (a / 256), b.getD a.toNat 0, b.getD (a.toNat + 1) 0] ++ [((C : Int), IntKind.u8.wrap ((N : Int) + 1))]) = b' at p1 p2 p3
      refine ⟨b', false, ar, l', _, ⟨rfl, by rw [p2]; exact hok, ⟨p2.trans hg.len, fun i hi => ?_⟩, ⟨by omega, by simp [addrL]; omega⟩, hl'⟩, fun _ => ⟨rfl, hc, ⟨(a, b.getD a.toNat 0), by rw [p1]; simp, rfl⟩, ⟨(a + 1, b.getD (a.toNat + 1) 0), by rw [p1]; simp, rfl⟩⟩⟩
      rw [p1, putAll_append]
      have hs : putAll b' [(a, b.getD a.toNat 0), (a + 1, b.getD (a.toNat + 1) 0)] = b' := by
        have g0 := p3 a.toNat (by omega)
        have g1 := p3 (a.toNat + 1) (by omega)
        rw [putAll, putAll, putAll]
        apply List.ext_getElem?
        intro k
        rw [List.getElem?_set, List.length_set, List.getElem?_set]
        show (if (a + 1).toNat = k then _ else if a.toNat = k then _ else _) = _
        rw [show (a + 1).toNat = a.toNat + 1 by omega]
        by_cases k1 : a.toNat + 1 = k
        · subst k1
          rw [if_pos rfl, if_pos (by omega), g1, List.getD_eq_getElem?_getD, List.getElem?_eq_getElem (show a.toNat + 1 < b.length by omega)]; rfl
        · rw [if_neg k1]
          by_cases k0 : a.toNat = k
          · subst k0
            rw [if_pos rfl, if_pos (by omega), g0, List.getD_eq_getElem?_getD, List.getElem?_eq_getElem (show a.toNat < b.length by omega)]; rfl
          · rw [if_neg k0]
      rw [hs, ← hg.out i hi]
      by_cases he : ∃ p ∈ L.plan b n, p.1.toNat = i
      · exact putAll_det _ _ _ p2 he
      · have hne : ∀ q ∈ L.plan b n, q.1.toNat ≠ i := fun q hq e => he ⟨q, hq, e⟩
        rw [putAll_out _ _ hne, putAll_out _ _ hne, p3 i hi]
    · rw [e]
      have hj4 : j ≤ 4 := by simp [addrL] at hj; omega
      rw [List.take_append_of_le_length (by simp [addrL]; omega)]
      have hin' : ∀ p ∈ (addrL (E : Int) [IntKind.u8.wrap a, IntKind.u8.wrap (a / 256), b.getD a.toNat 0, b.getD (a.toNat + 1) 0]).take j, (E : Int) ≤ p.1 ∧ p.1 < E + 4 := fun p hp => hin4 p (List.mem_of_mem_take hp)
      refine ⟨_, true, true, 0, _, ⟨rfl, by rw [putAll_len]; exact hok, hg.inside (putAll_len _ _) ?_ (fun i hi => putAll_out _ _ (fun p hp e => by have := hin' p hp; omega)), by omega, by omega⟩, fun h => absurd h (by simp [errOf])⟩
      exact Lg.plan_below hok (putAll_len _ _) hN.symm (fun i hi hj => putAll_out _ _ (fun p hp e => by have := hin' p hp; omega))

/-- A write of a word whose old bytes are logged. -/
theorem Lg.inv_write {b0 b : List Int} {t : Nat} {M : Mem} {ar : Bool} {left : Nat} {wr a : Int} (x : Int) (ht : t ≤ 100000) (h : L.Inv n b0 t M b false ar left wr) (hc : L.can a = true)
    (h0 : ∃ p ∈ L.plan b n, p.1 = a) (h1 : ∃ p ∈ L.plan b n, p.1 = a + 1) : ∃ b' off' ar' left' wr', L.Inv n b0 (t + 1) (M.writeBytes a (wordL x)).2 b' off' ar' left' wr' := by
  obtain ⟨rfl, hok, hg, hw, hl⟩ := h
  obtain ⟨c1, c2, c3⟩ := of_decide_eq_true hc
  have h4 := hok.size
  rw [Mem.writeBytes_puts rfl (Mem.valid_iff.2 ⟨by omega, by omega, by show a + 2 ≤ (b.length : Int); omega⟩), addrL_word]
  have hq : ∀ q ∈ [(a, IntKind.u8.wrap x), (a + 1, IntKind.u8.wrap (IntKind.u16.wrap x / 256))], 0 ≤ q.1 ∧ (q.1 < L.addr ∨ L.addr + (3 + 4 * L.most) ≤ q.1) ∧ ∃ p ∈ L.plan b n, p.1 = q.1 := by
    intro q hq
    simp only [List.mem_cons, List.not_mem_nil, or_false] at hq
    rcases hq with rfl | rfl
    · exact ⟨c1, by show a < _ ∨ _ ≤ a; omega, h0⟩
    · exact ⟨by show 0 ≤ a + 1; omega, by show a + 1 < _ ∨ _ ≤ a + 1; omega, h1⟩
  rcases Mem.puts_cases (b := b) (ar := ar) (left := left) (wr := wr) [(a, IntKind.u8.wrap x), (a + 1, IntKind.u8.wrap (IntKind.u16.wrap x / 256))] (fun p hp => by
      simp only [List.mem_cons, List.not_mem_nil, or_false] at hp
      rcases hp with rfl | rfl
      · show 0 ≤ a ∧ a < _; omega
      · show 0 ≤ a + 1 ∧ a + 1 < _; omega) (by omega) hl (by simp) with ⟨l', hl', e⟩ | ⟨j, hj, e⟩
  · rw [e]
    exact ⟨_, _, _, _, _, rfl, by rw [putAll_len]; exact hok, (hg.covered hok _ hq).1, ⟨by omega, by simp; omega⟩, hl'⟩
  · rw [e]
    refine ⟨_, _, _, _, _, rfl, by rw [putAll_len]; exact hok, (hg.covered hok _ (fun q h => hq q (List.mem_of_mem_take h))).1, ⟨by omega, ?_⟩, by omega⟩
    simp at hj; omega
end
end Go.Proofs.Ytkkmiodambfbdaa
