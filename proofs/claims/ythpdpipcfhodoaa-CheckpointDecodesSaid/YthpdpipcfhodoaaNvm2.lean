/- What the memory's other functions do: reads, copies, switches; each proved once. Conditions: a memory of at most 65536 bytes. -/
import Derived.Test.YthpdpipcfhodoaaNvm
namespace Go.Proofs.Ythpdpipcfhodoaa
open Go.RowKit
set_option linter.unusedSimpArgs false
set_option maxHeartbeats 4000000
set_option linter.unusedVariables false

abbrev bytesV (l : List Int) : List Value := l.map (Value.int .u8)

theorem RdB.rd {w : World} {S : List Nat} {v : Value} {l : List Int} (h : RdB w S v l) : Rd w v l.length (bytesV l) := by
  obtain ⟨a, c, h1, h2, h0, h3⟩ := h
  refine ⟨a, c, h1, h2, fun j u hj => ?_⟩
  rw [List.getElem?_map] at hj
  cases hl : l[j]? with
  | none => rw [hl] at hj; simp at hj
  | some x =>
    rw [hl] at hj
    simp at hj
    subst hj
    have hlt : j < l.length := (List.getElem?_eq_some_iff.1 hl).1
    rcases h3 with rfl | ⟨b, o, h4, _, _, h7⟩
    · simp at hlt
    · refine ⟨_, h4, ?_⟩
      have := h7 j hlt
      rw [List.getD_eq_getElem?_getD, hl] at this
      unfold Addr.add
      split
      · rename_i e; subst e; simpa using this
      · exact this

/-- What the call itself has made reads as bytes. -/
theorem RdB.own {w : World} {base n : Nat} {v : Value} {l : List Int} (S : List Nat) (h : w.ownsRow base 5 1 v n (bytesV l)) (hS : ∀ k, k ∈ S → k < base) (hl : ∀ x ∈ l, 0 ≤ x ∧ x < 256) : RdB w S v l := by
  obtain ⟨h1, h2⟩ := h
  have hn : n = l.length := by simpa using h1.symm
  subst hn
  rcases h2 with ⟨rfl, h0⟩ | ⟨g, cap, cur, rfl, hg, hh, hc, hm, hs, ht⟩
  · obtain rfl := List.eq_nil_of_length_eq_zero h0
    exact ⟨none, 0, rfl, by simp, hl, .inl rfl⟩
  · refine ⟨_, cap, rfl, hc, hl, .inr ⟨g, 0, rfl, fun hm => by have := hS g hm; omega, lt_of_block hh, fun j hj => ?_⟩⟩
    refine cell_of hh ?_
    have h3 : (cur.toList.take (l.length * 1))[j]? = some (.int .u8 (l.getD j 0)) := by
      rw [ht, List.getElem?_map, List.getD_eq_getElem?_getD, List.getElem?_eq_getElem hj]; rfl
    rw [List.getElem?_take, if_pos (by omega)] at h3
    simpa using h3

theorem oneCell_bytes (l : List Int) : ∀ u ∈ bytesV l, u.oneCell' = true := by
  intro u hu; simp at hu; obtain ⟨x, _, rfl⟩ := hu; rfl

theorem Fr.of_grown {w w' : World} {o : Option Nat} (h : w.grownBy w' o) : Fr w w' o.toList :=
  ⟨h.os, h.tape, h.output, h.size, fun k hk hn => h.block k hk (fun e => hn (by simp [← e]))⟩

theorem Ox.appB {ρ : Env} {w : World} {K : Value → World → Prop} {d : Option Nat} {ty : TypeId} {pos : String} {aft : Array Edge} {g : Option (Nat × Bool)} {s y : Operand} {v vy : Value} {base n : Nat} {xs l : List Int} {S : List Nat}
    (hs : ev ρ s = v) (hown : w.ownsRow base 5 1 v n (bytesV xs)) (hy : ev ρ y = vy) (hr : RdB w S vy l) (hsz : n + l.length ≤ 100000000) (hbase : base ≤ w.heap.size)
    (hk : ∀ v' w', w'.ownsRow base 5 1 v' (n + l.length) (bytesV (xs ++ l)) → Fr w w' v.ownBlock.toList → K v' w') :
    Ox Try.prog ⟨d, .call { callee := .builtin .append, args := #[s, y], argTypes := #[31, 31] }, ty, pos, aft, g⟩ ρ w K := by
  subst hy
  refine Ox.appendOwn (m := l.length) hs (by rfl) (by decide) hown hr.rd (by simp) (oneCell_bytes l) (by unfold maxLen; omega) (by omega) hbase (fun v' w' ho hg _ => hk v' w' ?_ (Fr.of_grown hg))
  rw [show bytesV (xs ++ l) = bytesV xs ++ bytesV l by simp]
  exact ho
theorem own_empty {w : World} {base b : Nat} (hb : w.heap[b]? = some (.cells #[] 5 (0, 0))) (hbase : base ≤ b) : w.ownsRow base 5 1 (.slice (some ⟨b, 0, none⟩) 0 0) 0 (bytesV []) :=
  ⟨by simp, .inr ⟨b, 0, #[], rfl, hbase, hb, Nat.le_refl _, by unfold maxLen; omega, rfl, rfl⟩⟩

/-- What a copy is: bytes in a block of its own. -/
def Fresh (w w' : World) (v : Value) (l : List Int) : Prop := w'.ownsRow w.heap.size 5 1 v l.length (bytesV l) ∧ Fr w w' []

theorem clone_calls {S : List Nat} {v : Value} {l : List Int} (w : World) (h : RdB w S v l) (hl : l.length ≤ 1000000) :
    Calls Try.prog 65 #[v] w fun e w' => ∃ v', e = .returned v' ∧ Fresh w w' v' l := by
  have hr := h
  obtain ⟨a, c, rfl, h2, h0, h3⟩ := h
  refine calls_Wp (args := [_]) Try.func65 rfl Try.ntmps65 (by simp) ?_
  cases a with
  | none =>
    have hn : l = [] := by rcases h3 with h3 | ⟨b, o, h4, _⟩; exact h3; simp at h4
    subst hn
    repeat' (first | ((with_reducible show Wo _ _ _ _ _ _ _ _); first | (refine WoA.step ?_) | ((with_reducible apply Wo.nil)) | ((with_reducible apply Wo.step0)) | (refine WoA.list ?_)) | ((with_reducible show Ox _ _ _ _ _); first | (refine OxA.move ?_) | (refine OxA.assign ?_) | (refine OxA.eql ?_) | (refine OxA.eqlBV ?_) | (refine OxA.eqlB ?_) | ((with_reducible apply Ox.bs0); intro b1 w1 hb1 hF1 hg1 hs1) | (refine OxA.bs1 ?_; intro b1 w1 hb1 hF1 hg1 hs1) | (refine OxA.bs2 ?_; intro b1 w1 hb1 hF1 hg1 hs1) | (refine OxB.bsE ?_; intro b1 w1 hb1 hF1 hg1 hs1) | (refine OxA.eqlSN ?_) | (refine OxA.eqlSame ?_) | (refine OxA.eqlS ?_)) | ((with_reducible show Wp _ _ _ _ _ _ _); first | ((with_reducible apply Wp.seq)) | ((with_reducible apply Wp.region)) | ((with_reducible apply Wp.skip)) | ((with_reducible apply Wp.ret)) | (refine WpA.condT ?_) | (refine WpA.condF ?_) | (refine WpA.condTo ?_) | (refine WpA.condFo ?_) | ((with_reducible apply Wp.cond); (exact rfl); all_goals (intro hb; (have hb0 := hb; try simp only [decide_eq_true_eq, decide_eq_false_iff_not, Bool.not_eq_true', Bool.not_eq_false', Int.not_lt, Int.not_le, ne_eq, Decidable.not_not] at hb0); (try (exfalso; first | contradiction | omega)))) | ((with_reducible apply Wp.block)) | ((with_reducible apply Wp.exit)) | ((with_reducible apply Wp.label))) | ((with_reducible apply thenQ_n)) | ((with_reducible apply thenQ_r)) | ((with_reducible apply thenQ_e)) | ((with_reducible apply RetQ.one); (exact rfl); (conv => lhs; whnf)) | ((with_reducible apply blockQ_n)) | ((with_reducible apply blockQ_r)) | ((with_reducible apply blockQ_here); (exact rfl)) | ((with_reducible apply blockQ_on); (decide)))
    exact ⟨_, rfl, World.ownsRow_nil _ _ _ _, Fr.refl _ _⟩
  | some ad =>
    repeat' (first | ((with_reducible show Wo _ _ _ _ _ _ _ _); first | (refine WoA.step ?_) | ((with_reducible apply Wo.nil)) | ((with_reducible apply Wo.step0)) | (refine WoA.list ?_)) | ((with_reducible show Ox _ _ _ _ _); first | ((with_reducible apply Ox.appB); (conv => lhs; whnf); (exact own_empty hb1 (Nat.le_of_eq hg1.symm)); (conv => lhs; whnf); (exact hr.kept hF1 (by simp)); (simpa using Nat.le_trans hl (by omega)); (omega); (intro v2 w2 hO hF2)) | (refine OxA.move ?_) | (refine OxA.assign ?_) | (refine OxA.eql ?_) | (refine OxA.eqlBV ?_) | (refine OxA.eqlB ?_) | ((with_reducible apply Ox.bs0); intro b1 w1 hb1 hF1 hg1 hs1) | (refine OxA.bs1 ?_; intro b1 w1 hb1 hF1 hg1 hs1) | (refine OxA.bs2 ?_; intro b1 w1 hb1 hF1 hg1 hs1) | (refine OxB.bsE ?_; intro b1 w1 hb1 hF1 hg1 hs1) | (refine OxA.eqlSN ?_) | (refine OxA.eqlSame ?_) | (refine OxA.eqlS ?_)) | ((with_reducible show Wp _ _ _ _ _ _ _); first | ((with_reducible apply Wp.seq)) | ((with_reducible apply Wp.region)) | ((with_reducible apply Wp.skip)) | ((with_reducible apply Wp.ret)) | (refine WpA.condT ?_) | (refine WpA.condF ?_) | (refine WpA.condTo ?_) | (refine WpA.condFo ?_) | ((with_reducible apply Wp.cond); (exact rfl); all_goals (intro hb; (have hb0 := hb; try simp only [decide_eq_true_eq, decide_eq_false_iff_not, Bool.not_eq_true', Bool.not_eq_false', Int.not_lt, Int.not_le, ne_eq, Decidable.not_not] at hb0); (try (exfalso; first | contradiction | omega)))) | ((with_reducible apply Wp.block)) | ((with_reducible apply Wp.exit)) | ((with_reducible apply Wp.label))) | ((with_reducible apply thenQ_n)) | ((with_reducible apply thenQ_r)) | ((with_reducible apply thenQ_e)) | ((with_reducible apply RetQ.one); (exact rfl); (conv => lhs; whnf)) | ((with_reducible apply blockQ_n)) | ((with_reducible apply blockQ_r)) | ((with_reducible apply blockQ_here); (exact rfl)) | ((with_reducible apply blockQ_on); (decide)))
    exact ⟨v2, rfl, by simpa using hO, hF1.step hF2 (by intro k hk; simp [Value.ownBlock] at hk; subst hk; right; omega)⟩

def Mem.read (M : Mem) (addr : Int) : Int := if M.off = false ∧ M.valid addr 1 = true then M.b.getD addr.toNat 0 else 0
def Mem.readBytes (M : Mem) (addr n : Int) : List Int :=
  if M.valid addr n = true then (if M.off = true then List.replicate n.toNat 0 else (M.b.drop addr.toNat).take n.toNat) else []

theorem IsMem.cell {w : World} {g s : Nat} {M : Mem} (h : IsMem w g s M) {j : Nat} (hj : j < M.b.length) : w.cell? ⟨s, j, none⟩ = some (.int .u8 (M.b.getD j 0)) :=
  cell_of h.hs (by simp [hj])

/-- A part of the memory, read in place. -/
theorem IsMem.rdb {w : World} {g s : Nat} {M : Mem} (h : IsMem w g s M) (k n : Nat) (hk : k + n ≤ M.b.length) :
    RdB w [] (.slice (some ⟨s, k, none⟩) n (M.b.length - k)) ((M.b.drop k).take n) := by
  have hl : ((M.b.drop k).take n).length = n := by simp; omega
  refine ⟨_, _, by rw [hl], by omega, fun x hx => h.byt x (List.mem_of_mem_drop (List.mem_of_mem_take hx)), .inr ⟨s, k, rfl, by simp, lt_of_block h.hs, fun j hj => ?_⟩⟩
  rw [hl] at hj
  rw [h.cell (by omega)]
  congr 2
  simp [List.getElem?_take, List.getElem?_drop, hj]

def Same (w : World) (v : Value) (e : Ending) (w' : World) : Prop := e = .returned v ∧ w = w'

theorem read_calls {g s : Nat} {M : Mem} (addr : Int) (w : World) (h : IsMem w g s M) (ha : -9223372036854775808 ≤ addr ∧ addr ≤ 9223372036854775807) :
    Calls Try.prog 35 #[.pointer (some ⟨g, 0, none⟩), .int .i64 addr] w (Same w (.int .u8 (M.read addr))) := by
  have hv := valid_calls addr 1 w h ha (by omega)
  have hg := h.hg
  have hn := h.len
  cases hvb : M.valid addr 1 with
  | false =>
    rw [hvb] at hv
    refine calls_Wp (args := [_, _]) Try.func35 rfl Try.ntmps35 (by simp) ?_
    repeat' (first | ((with_reducible show Calls _ _ _ _ _); first | (refine hv.mono ?_; rintro e w' ⟨rfl, rfl⟩; refine ⟨_, rfl, ?_⟩)) | ((with_reducible show Wo _ _ _ _ _ _ _ _); first | (refine WoA.step ?_) | ((with_reducible apply Wo.nil)) | ((with_reducible apply Wo.step0)) | (refine WoA.list ?_) | (refine WoA.yesT ?_) | (refine WoA.yesF ?_) | (refine WoA.noT ?_) | (refine WoA.noF ?_) | (refine WoA.noU ?_) | (refine WoA.yesTo ?_) | (refine WoA.yesFo ?_) | (refine WoA.noTo ?_) | (refine WoA.noFo ?_) | ((with_reducible apply Wo.part); (exact rfl); (exact rfl); (exact rfl); all_goals (intro hb; (have hb0 := hb; try simp only [decide_eq_true_eq, decide_eq_false_iff_not, Bool.not_eq_true', Bool.not_eq_false', Int.not_lt, Int.not_le, ne_eq, Decidable.not_not] at hb0); (try (exfalso; first | contradiction | omega))))) | ((with_reducible show Ox _ _ _ _ _); first | (refine OxA.move ?_) | (refine OxA.nilCheck ?_) | (refine OxA.fieldAddr0 ?_) | (refine OxA.fieldAddrN ?_) | (refine OxA.fieldAddr ?_) | (refine OxA.load ?_) | (refine OxA.assign ?_) | (refine OxA.pickT ?_) | (refine OxA.pickF ?_) | (refine OxA.pickTo ?_) | (refine OxA.pickFo ?_) | (refine OxA.not ?_) | (refine OxA.loadAggB ?_) | (refine OxA.call3 ?_) | (refine OxA.indexAddr1 ?_) | ((with_reducible apply Ox.indexAddrN); (exact rfl); (exact rfl); (omega); (omega); (first | (conv => lhs; simp only [Nat.zero_add, Int.toNat_natCast]) | exact rfl)) | (refine OxA.indexAddr ?_)) | ((with_reducible show Wp _ _ _ _ _ _ _); first | ((with_reducible apply Wp.seq)) | ((with_reducible apply Wp.region)) | ((with_reducible apply Wp.skip)) | ((with_reducible apply Wp.ret)) | (refine WpA.condT ?_) | (refine WpA.condF ?_) | (refine WpA.condTo ?_) | (refine WpA.condFo ?_) | ((with_reducible apply Wp.cond); (exact rfl); all_goals (intro hb; (have hb0 := hb; try simp only [decide_eq_true_eq, decide_eq_false_iff_not, Bool.not_eq_true', Bool.not_eq_false', Int.not_lt, Int.not_le, ne_eq, Decidable.not_not] at hb0); (try (exfalso; first | contradiction | omega)))) | ((with_reducible apply Wp.block)) | ((with_reducible apply Wp.exit)) | ((with_reducible apply Wp.label))) | ((with_reducible apply thenQ_n)) | ((with_reducible apply thenQ_r)) | ((with_reducible apply thenQ_e)) | ((with_reducible apply RetQ.one); (exact rfl); (conv => lhs; whnf)) | ((with_reducible apply blockQ_n)) | ((with_reducible apply blockQ_r)) | ((with_reducible apply blockQ_here); (exact rfl)) | ((with_reducible apply blockQ_on); (decide)))
    all_goals exact ⟨by simp [Mem.read, hvb], rfl⟩
  | true =>
    rw [hvb] at hv
    obtain ⟨hl0, _, hl1⟩ := Mem.valid_iff.1 hvb
    have hc := h.cell (j := addr.toNat) (by omega)
    refine calls_Wp (args := [_, _]) Try.func35 rfl Try.ntmps35 (by simp) ?_
    repeat' (first | ((with_reducible show Calls _ _ _ _ _); first | (refine hv.mono ?_; rintro e w' ⟨rfl, rfl⟩; refine ⟨_, rfl, ?_⟩)) | ((with_reducible show Wo _ _ _ _ _ _ _ _); first | (refine WoA.step ?_) | ((with_reducible apply Wo.nil)) | ((with_reducible apply Wo.step0)) | (refine WoA.list ?_) | (refine WoA.yesT ?_) | (refine WoA.yesF ?_) | (refine WoA.noT ?_) | (refine WoA.noF ?_) | (refine WoA.noU ?_) | (refine WoA.yesTo ?_) | (refine WoA.yesFo ?_) | (refine WoA.noTo ?_) | (refine WoA.noFo ?_) | ((with_reducible apply Wo.part); (exact rfl); (exact rfl); (exact rfl); all_goals (intro hb; (have hb0 := hb; try simp only [decide_eq_true_eq, decide_eq_false_iff_not, Bool.not_eq_true', Bool.not_eq_false', Int.not_lt, Int.not_le, ne_eq, Decidable.not_not] at hb0); (try (exfalso; first | contradiction | omega))))) | ((with_reducible show Ox _ _ _ _ _); first | (refine OxA.move ?_) | (refine OxA.nilCheck ?_) | (refine OxA.fieldAddr0 ?_) | (refine OxA.fieldAddrN ?_) | (refine OxA.fieldAddr ?_) | (refine OxA.load ?_) | (refine OxA.assign ?_) | (refine OxA.pickT ?_) | (refine OxA.pickF ?_) | (refine OxA.pickTo ?_) | (refine OxA.pickFo ?_) | (refine OxA.not ?_) | (refine OxA.loadAggB ?_) | (refine OxA.call3 ?_) | (refine OxA.indexAddr1 ?_) | ((with_reducible apply Ox.indexAddrN); (exact rfl); (exact rfl); (omega); (omega); (first | (conv => lhs; simp only [Nat.zero_add, Int.toNat_natCast]) | exact rfl)) | (refine OxA.indexAddr ?_)) | ((with_reducible show Wp _ _ _ _ _ _ _); first | ((with_reducible apply Wp.seq)) | ((with_reducible apply Wp.region)) | ((with_reducible apply Wp.skip)) | ((with_reducible apply Wp.ret)) | (refine WpA.condT ?_) | (refine WpA.condF ?_) | (refine WpA.condTo ?_) | (refine WpA.condFo ?_) | ((with_reducible apply Wp.cond); (exact rfl); all_goals (intro hb; (have hb0 := hb; try simp only [decide_eq_true_eq, decide_eq_false_iff_not, Bool.not_eq_true', Bool.not_eq_false', Int.not_lt, Int.not_le, ne_eq, Decidable.not_not] at hb0); (try (exfalso; first | contradiction | omega)))) | ((with_reducible apply Wp.block)) | ((with_reducible apply Wp.exit)) | ((with_reducible apply Wp.label))) | ((with_reducible apply thenQ_n)) | ((with_reducible apply thenQ_r)) | ((with_reducible apply thenQ_e)) | ((with_reducible apply RetQ.one); (exact rfl); (conv => lhs; whnf)) | ((with_reducible apply blockQ_n)) | ((with_reducible apply blockQ_r)) | ((with_reducible apply blockQ_here); (exact rfl)) | ((with_reducible apply blockQ_on); (decide)))
    · exact ⟨by simp [Mem.read, hb0], rfl⟩
    · exact ⟨by simp [Mem.read, hb0, hvb], rfl⟩

theorem IsMem.rdbCut {w : World} {g s : Nat} {M : Mem} (h : IsMem w g s M) (k n : Nat) (hk : k + n ≤ M.b.length) :
    RdB w [] (.slice (cutA (some ⟨s, 0, none⟩) k M.b.length 1) n (M.b.length - k)) ((M.b.drop k).take n) := by
  by_cases e : M.b.length = k
  · have hn : n = 0 := by omega
    subst hn
    exact ⟨_, _, by simp; exact ⟨rfl, rfl⟩, by simp, by simp, .inl (by simp)⟩
  · have := h.rdb k n hk
    have e2 : cutA (some ⟨s, 0, none⟩) k M.b.length 1 = some ⟨s, k, none⟩ := by
      unfold cutA
      rw [if_neg e]
      simp [Addr.add]
      intro hk; simp [hk]
    rw [e2]; exact this

/-- A part of a row that is read. -/
theorem RdB.cut {w : World} {S : List Nat} {a : Option Addr} {n c k m : Nat} {l : List Int} (h : RdB w S (.slice a n c) l) (hk : k + m ≤ l.length) :
    RdB w S (.slice (cutA a k c 1) m (c - k)) ((l.drop k).take m) := by
  obtain ⟨a', c', h1, h2, h0, h3⟩ := h
  cases h1
  have hl : ((l.drop k).take m).length = m := by simp; omega
  refine ⟨_, _, by rw [hl], by omega, fun x hx => h0 x (List.mem_of_mem_drop (List.mem_of_mem_take hx)), ?_⟩
  rcases Nat.eq_zero_or_pos m with rfl | hm
  · exact .inl (by simp)
  rcases h3 with rfl | ⟨b, o, rfl, h5, h6, h7⟩
  · exfalso; simp at hk; omega
  · refine .inr ⟨b, o + k, ?_, h5, h6, fun j hj => ?_⟩
    · unfold cutA
      rw [if_neg (by omega)]
      simp [Addr.add]
      try (intro h; simp [h])
    · rw [hl] at hj
      rw [Nat.add_assoc, h7 (k + j) (by omega)]
      congr 2
      simp [List.getD_eq_getElem?_getD, List.getElem?_take, List.getElem?_drop, hj]

theorem own_made {w' : World} {base b : Nat} {n : Nat} (hb : w'.heap[b]? = some (.cells (madeCells (Value.int .u8 0).cells (n * 1)) 5 (0, 0))) (hbase : base ≤ b) (hn : n ≤ 100000000) :
    w'.ownsRow base 5 1 (.slice (some ⟨b, 0, none⟩) n n) n (bytesV (List.replicate n 0)) := by
  refine ⟨by simp, .inr ⟨b, n, _, rfl, hbase, hb, Nat.le_refl _, by unfold maxLen; omega, by simp [size_madeCells], ?_⟩⟩
  have : (madeCells (Value.int .u8 0).cells (n * 1)).toList = List.replicate n (.int .u8 0) := by
    rw [Nat.mul_one]; exact toList_madeCells_one _ _
  rw [this]
  simp

theorem Ox.b2sB {P : Program} {d : Option Nat} {ty : TypeId} {pos : String} {aft : Array Edge} {gd : Option (Nat × Bool)} {ρ : Env} {w : World} {K : Value → World → Prop} {T T' e : Nat} [hT : UT P T (.slice e)] [he : UT P e (.int .u8)] [hd : UT P T' .string] {x : Operand} {v : Value} {S : List Nat} {l : List Int} (hx : ev ρ x = v) (hr : RdB w S v l)
    (h : K (.string (bstr l)) w) : Ox P ⟨d, .convert T T' x, ty, pos, aft, gd⟩ ρ w K := by
  subst hx
  exact Ox.b2s hr.rd rfl h

theorem Mem.readBytes_off {M : Mem} {addr n : Int} (hv : M.valid addr n = true) (ho : M.off = true) : M.readBytes addr n = List.replicate n.toNat 0 := by simp [Mem.readBytes, hv, ho]
theorem Mem.readBytes_on {M : Mem} {addr n : Int} (hv : M.valid addr n = true) (ho : M.off = false) : M.readBytes addr n = (M.b.drop addr.toNat).take n.toNat := by simp [Mem.readBytes, hv, ho]

/-- Bytes that are new since `w`. -/
theorem Fresh.rdb {w w' : World} {v : Value} {l : List Int} (h : Fresh w w' v l) (S : List Nat) (hS : ∀ k, k ∈ S → k < w.heap.size) (hl : ∀ x ∈ l, 0 ≤ x ∧ x < 256) : RdB w' S v l := RdB.own S h.1 hS hl

theorem readBytes_calls {g s : Nat} {M : Mem} (addr n : Int) (w : World) (h : IsMem w g s M) (ha : -9223372036854775808 ≤ addr ∧ addr ≤ 9223372036854775807) (hn : -9223372036854775808 ≤ n ∧ n ≤ 9223372036854775807) :
    Calls Try.prog 24 #[.pointer (some ⟨g, 0, none⟩), .int .i64 addr, .int .i64 n] w fun e w' => ∃ v', e = .returned v' ∧ Fresh w w' v' (M.readBytes addr n) := by
  have hv := valid_calls addr n w h ha hn
  have hg := h.hg
  have hlen := h.len
  cases hvb : M.valid addr n with
  | false =>
    rw [hvb] at hv
    refine calls_Wp (args := [_, _, _]) Try.func24 rfl Try.ntmps24 (by simp) ?_
    repeat' (first | ((with_reducible show Calls _ _ _ _ _); first | (refine hv.mono ?_; rintro e w' ⟨rfl, rfl⟩; refine ⟨_, rfl, ?_⟩)) | ((with_reducible show Wo _ _ _ _ _ _ _ _); first | (refine WoA.step ?_) | ((with_reducible apply Wo.nil)) | ((with_reducible apply Wo.step0)) | (refine WoA.list ?_)) | ((with_reducible show Ox _ _ _ _ _); first | (refine OxA.move ?_) | (refine OxA.nilCheck ?_) | (refine OxA.fieldAddr0 ?_) | (refine OxA.fieldAddrN ?_) | (refine OxA.fieldAddr ?_) | (refine OxA.load ?_) | (refine OxA.assign ?_) | (refine OxA.not ?_) | (refine OxA.add' ?_) | (refine OxA.add ?_) | (refine OxA.loadAggB ?_) | (refine OxA.call1 ?_) | (refine OxA.call3 ?_)) | ((with_reducible show Wp _ _ _ _ _ _ _); first | ((with_reducible apply Wp.seq)) | ((with_reducible apply Wp.region)) | ((with_reducible apply Wp.skip)) | ((with_reducible apply Wp.ret)) | (refine WpA.condT ?_) | (refine WpA.condF ?_) | (refine WpA.condTo ?_) | (refine WpA.condFo ?_) | ((with_reducible apply Wp.cond); (exact rfl); all_goals (intro hb; (have hb0 := hb; try simp only [decide_eq_true_eq, decide_eq_false_iff_not, Bool.not_eq_true', Bool.not_eq_false', Int.not_lt, Int.not_le, ne_eq, Decidable.not_not] at hb0); (try (exfalso; first | contradiction | omega)))) | ((with_reducible apply Wp.block)) | ((with_reducible apply Wp.exit)) | ((with_reducible apply Wp.label))) | ((with_reducible apply thenQ_n)) | ((with_reducible apply thenQ_r)) | ((with_reducible apply thenQ_e)) | ((with_reducible apply RetQ.one); (exact rfl); (conv => lhs; whnf)) | ((with_reducible apply blockQ_n)) | ((with_reducible apply blockQ_r)) | ((with_reducible apply blockQ_here); (exact rfl)) | ((with_reducible apply blockQ_on); (decide)))
    have e : M.readBytes addr n = [] := by simp [Mem.readBytes, hvb]
    rw [e]
    exact ⟨_, rfl, World.ownsRow_nil _ _ _ _, Fr.refl _ _⟩
  | true =>
    rw [hvb] at hv
    obtain ⟨hl0, hl2, hl1⟩ := Mem.valid_iff.1 hvb
    refine calls_Wp (args := [_, _, _]) Try.func24 rfl Try.ntmps24 (by simp) ?_
    repeat' (first | ((with_reducible show Calls _ _ _ _ _); first | (refine hv.mono ?_; rintro e w' ⟨rfl, rfl⟩; refine ⟨_, rfl, ?_⟩) | (rw [show (addr + n).toNat - addr.toNat = n.toNat from by omega]; refine (clone_calls _ (h.rdbCut addr.toNat n.toNat (by omega)) (by simp; omega)).mono ?_; rintro e w1 ⟨v1, rfl, hfr⟩; refine ⟨_, rfl, ?_⟩)) | ((with_reducible show Wo _ _ _ _ _ _ _ _); first | (refine WoA.step ?_) | ((with_reducible apply Wo.nil)) | ((with_reducible apply Wo.step0)) | (refine WoA.list ?_)) | ((with_reducible show Ox _ _ _ _ _); first | ((with_reducible apply Ox.makeB); (exact rfl); (exact rfl); (omega); (omega); (omega); (omega); (intro b1 w1 hb1 hF1 hg1 hs1)) | ((with_reducible apply Ox.sliceLH); (exact rfl); (exact rfl); (exact rfl); (omega); (omega); (omega)) | (refine OxA.move ?_) | (refine OxA.nilCheck ?_) | (refine OxA.fieldAddr0 ?_) | (refine OxA.fieldAddrN ?_) | (refine OxA.fieldAddr ?_) | (refine OxA.load ?_) | (refine OxA.assign ?_) | (refine OxA.not ?_) | (refine OxA.add' ?_) | (refine OxA.add ?_) | (refine OxA.loadAggB ?_) | (refine OxA.call1 ?_) | (refine OxA.call3 ?_)) | ((with_reducible show Wp _ _ _ _ _ _ _); first | ((with_reducible apply Wp.seq)) | ((with_reducible apply Wp.region)) | ((with_reducible apply Wp.skip)) | ((with_reducible apply Wp.ret)) | (refine WpA.condT ?_) | (refine WpA.condF ?_) | (refine WpA.condTo ?_) | (refine WpA.condFo ?_) | ((with_reducible apply Wp.cond); (exact rfl); all_goals (intro hb; (have hb0 := hb; try simp only [decide_eq_true_eq, decide_eq_false_iff_not, Bool.not_eq_true', Bool.not_eq_false', Int.not_lt, Int.not_le, ne_eq, Decidable.not_not] at hb0); (try (exfalso; first | contradiction | omega)))) | ((with_reducible apply Wp.block)) | ((with_reducible apply Wp.exit)) | ((with_reducible apply Wp.label))) | ((with_reducible apply thenQ_n)) | ((with_reducible apply thenQ_r)) | ((with_reducible apply thenQ_e)) | ((with_reducible apply RetQ.one); (exact rfl); (conv => lhs; whnf)) | ((with_reducible apply blockQ_n)) | ((with_reducible apply blockQ_r)) | ((with_reducible apply blockQ_here); (exact rfl)) | ((with_reducible apply blockQ_on); (decide)))
    · have e : M.readBytes addr n = List.replicate n.toNat 0 := by simp [Mem.readBytes, hvb, hb0]
      rw [e]
      exact ⟨_, rfl, by rw [List.length_replicate]; exact own_made hb1 (by omega) (by omega), hF1⟩
    · have e : M.readBytes addr n = (M.b.drop addr.toNat).take n.toNat := by simp [Mem.readBytes, hvb, hb0]
      rw [e]
      exact ⟨_, rfl, hfr⟩


def Mem.readWord (M : Mem) (addr : Int) : Int :=
  if M.valid addr 2 = true then IntKind.i16.wrap (M.read addr + 256 * M.read (addr + 1)) else 0

theorem Mem.read_byte {w : World} {g s : Nat} {M : Mem} (h : IsMem w g s M) (addr : Int) : 0 ≤ M.read addr ∧ M.read addr < 256 := by
  unfold Mem.read
  split
  · rename_i e
    have := Mem.valid_iff.1 e.2
    rw [List.getD_eq_getElem?_getD, List.getElem?_eq_getElem (by omega)]
    exact h.byt _ (List.getElem_mem _)
  · omega

theorem bits_or_lo_hi (a b : Int) (ha : 0 ≤ a ∧ a < 256) (hb : 0 ≤ b ∧ b < 256) : bits .or .u16 a (b * 256) = a + 256 * b := by
  obtain ⟨n, rfl⟩ := Int.eq_ofNat_of_zero_le ha.1
  obtain ⟨m, rfl⟩ := Int.eq_ofNat_of_zero_le hb.1
  have h1 : (BitVec.ofInt 16 (n : Int)).toNat = n := by
    rw [BitVec.ofInt_natCast, BitVec.toNat_ofNat]; exact Nat.mod_eq_of_lt (by omega)
  have h2 : (BitVec.ofInt 16 ((m : Int) * 256)).toNat = 256 * m := by
    rw [show (m : Int) * 256 = ((256 * m : Nat) : Int) by omega, BitVec.ofInt_natCast, BitVec.toNat_ofNat]; exact Nat.mod_eq_of_lt (by omega)
  have h3 := Nat.two_pow_add_eq_or_of_lt (i := 8) (b := n) (by omega) m
  show IntKind.u16.wrap ((BitVec.ofInt 16 (n : Int) ||| BitVec.ofInt 16 ((m : Int) * 256)).toNat : Int) = _
  rw [BitVec.toNat_or, h1, h2, IntKind.wrap_u16, Nat.or_comm, ← h3]
  omega

theorem readWord_calls {g s : Nat} {M : Mem} (addr : Int) (w : World) (h : IsMem w g s M) (ha : -9223372036854775808 ≤ addr ∧ addr ≤ 9223372036854775807) :
    Calls Try.prog 101 #[.pointer (some ⟨g, 0, none⟩), .int .i64 addr] w (Same w (.int .i16 (M.readWord addr))) := by
  have hv := valid_calls addr 2 w h ha (by omega)
  have hlen := h.len
  cases hvb : M.valid addr 2 with
  | false =>
    rw [hvb] at hv
    refine calls_Wp (args := [_, _]) Try.func101 rfl Try.ntmps101 (by simp) ?_
    repeat' (first | ((with_reducible show Calls _ _ _ _ _); first | (refine hv.mono ?_; rintro e w' ⟨rfl, rfl⟩; refine ⟨_, rfl, ?_⟩)) | ((with_reducible show Wo _ _ _ _ _ _ _ _); first | (refine WoA.step ?_) | ((with_reducible apply Wo.nil)) | ((with_reducible apply Wo.step0)) | (refine WoA.list ?_)) | ((with_reducible show Ox _ _ _ _ _); first | (refine OxA.move ?_) | (refine OxA.assign ?_) | (refine OxA.not ?_) | (refine OxA.add' ?_) | (refine OxA.add ?_) | (refine OxA.or ?_) | (refine OxA.convSame ?_; intro w1 hb1 hF1 hs1) | (refine OxA.convI ?_) | (refine OxA.conv ?_) | (refine OxA.call2 ?_) | (refine OxA.call3 ?_) | (refine OxA.shlC ?_)) | ((with_reducible show Wp _ _ _ _ _ _ _); first | ((with_reducible apply Wp.seq)) | ((with_reducible apply Wp.region)) | ((with_reducible apply Wp.skip)) | ((with_reducible apply Wp.ret)) | (refine WpA.condT ?_) | (refine WpA.condF ?_) | (refine WpA.condTo ?_) | (refine WpA.condFo ?_) | ((with_reducible apply Wp.cond); (exact rfl); all_goals (intro hb; (have hb0 := hb; try simp only [decide_eq_true_eq, decide_eq_false_iff_not, Bool.not_eq_true', Bool.not_eq_false', Int.not_lt, Int.not_le, ne_eq, Decidable.not_not] at hb0); (try (exfalso; first | contradiction | omega)))) | ((with_reducible apply Wp.block)) | ((with_reducible apply Wp.exit)) | ((with_reducible apply Wp.label))) | ((with_reducible apply thenQ_n)) | ((with_reducible apply thenQ_r)) | ((with_reducible apply thenQ_e)) | ((with_reducible apply RetQ.one); (exact rfl); (conv => lhs; whnf)) | ((with_reducible apply blockQ_n)) | ((with_reducible apply blockQ_r)) | ((with_reducible apply blockQ_here); (exact rfl)) | ((with_reducible apply blockQ_on); (decide)))
    exact ⟨by simp [Mem.readWord, hvb], rfl⟩
  | true =>
    rw [hvb] at hv
    obtain ⟨hl0, hl2, hl1⟩ := Mem.valid_iff.1 hvb
    have h1 := Mem.read_byte h addr
    have h2 := Mem.read_byte h (addr + 1)
    refine calls_Wp (args := [_, _]) Try.func101 rfl Try.ntmps101 (by simp) ?_
    repeat' (first | ((with_reducible show Calls _ _ _ _ _); first | (refine hv.mono ?_; rintro e w' ⟨rfl, rfl⟩; refine ⟨_, rfl, ?_⟩) | (refine (read_calls _ _ h (by omega)).mono ?_; rintro e w' ⟨rfl, rfl⟩; refine ⟨_, rfl, ?_⟩)) | ((with_reducible show Wo _ _ _ _ _ _ _ _); first | (refine WoA.step ?_) | ((with_reducible apply Wo.nil)) | ((with_reducible apply Wo.step0)) | (refine WoA.list ?_)) | ((with_reducible show Ox _ _ _ _ _); first | (refine OxA.move ?_) | (refine OxA.assign ?_) | (refine OxA.not ?_) | (refine OxA.add' ?_) | (refine OxA.add ?_) | (refine OxA.or ?_) | (refine OxA.convSame ?_; intro w1 hb1 hF1 hs1) | (refine OxA.convI ?_) | (refine OxA.conv ?_) | (refine OxA.call2 ?_) | (refine OxA.call3 ?_) | (refine OxA.shlC ?_)) | ((with_reducible show Wp _ _ _ _ _ _ _); first | ((with_reducible apply Wp.seq)) | ((with_reducible apply Wp.region)) | ((with_reducible apply Wp.skip)) | ((with_reducible apply Wp.ret)) | (refine WpA.condT ?_) | (refine WpA.condF ?_) | (refine WpA.condTo ?_) | (refine WpA.condFo ?_) | ((with_reducible apply Wp.cond); (exact rfl); all_goals (intro hb; (have hb0 := hb; try simp only [decide_eq_true_eq, decide_eq_false_iff_not, Bool.not_eq_true', Bool.not_eq_false', Int.not_lt, Int.not_le, ne_eq, Decidable.not_not] at hb0); (try (exfalso; first | contradiction | omega)))) | ((with_reducible apply Wp.block)) | ((with_reducible apply Wp.exit)) | ((with_reducible apply Wp.label))) | ((with_reducible apply thenQ_n)) | ((with_reducible apply thenQ_r)) | ((with_reducible apply thenQ_e)) | ((with_reducible apply RetQ.one); (exact rfl); (conv => lhs; whnf)) | ((with_reducible apply blockQ_n)) | ((with_reducible apply blockQ_r)) | ((with_reducible apply blockQ_here); (exact rfl)) | ((with_reducible apply blockQ_on); (decide)))
    refine ⟨?_, rfl⟩
    have e1 : IntKind.u16.wrap (M.read addr) = M.read addr := by rw [IntKind.wrap_u16]; omega
    have e2 : IntKind.u16.wrap (M.read (addr + 1)) = M.read (addr + 1) := by rw [IntKind.wrap_u16]; omega
    have e3 : (2 : Int) ^ Int.toNat 8 = 256 := by decide
    have e4 : IntKind.u16.wrap (M.read (addr + 1) * 256) = M.read (addr + 1) * 256 := by rw [IntKind.wrap_u16]; omega
    rw [e1, e2, e3, e4, bits_or_lo_hi _ _ h1 h2]
    simp [Mem.readWord, hvb]

theorem mtr_kept {w w' : World} {m : Mtr} (hm : m.In w) {S : List Nat} (hf : Fr w w' S) (hS : ∀ k, k ∈ m.blocks → k ∉ S) : m.In w' := by
  cases m with
  | off => trivial
  | down c n => exact hf.blk hm (hS c (by simp [Mtr.blocks]))
  | up c d n k => exact ⟨hf.blk hm.1 (hS c (by simp [Mtr.blocks])), hf.blk hm.2.1 (hS d (by simp [Mtr.blocks])), hm.2.2⟩

theorem arm_calls {g s : Nat} {M : Mem} (n : Int) (w : World) (h : IsMem w g s M) :
    Calls Try.prog 26 #[.pointer (some ⟨g, 0, none⟩), .int .i64 n] w fun e w' => e = .returned (.tuple #[]) ∧ IsMem w' g s { M with armed := decide (0 ≤ n), left := n } ∧ Fr w w' [g] := by
  have hg := h.hg
  have hs := h.hs
  have hne := h.ne
  refine calls_Wp (args := [_, _]) Try.func26 rfl Try.ntmps26 (by simp) ?_
  repeat' (first | ((with_reducible show Wo _ _ _ _ _ _ _ _); first | (refine WoA.step ?_) | ((with_reducible apply Wo.nil)) | ((with_reducible apply Wo.step0)) | (refine WoA.list ?_)) | ((with_reducible show Ox _ _ _ _ _); first | (refine OxA.move ?_) | (refine OxA.nilCheck ?_) | (refine OxA.fieldAddr0 ?_) | (refine OxA.fieldAddrN ?_) | (refine OxA.fieldAddr ?_) | (refine OxA.geq ?_) | (refine OxA.storeAggB ?_; intro w1 hb1 hF1 hs1) | (refine OxA.storeB ?_; intro w1 hb1 hF1 hs1)) | ((with_reducible show Wp _ _ _ _ _ _ _); first | ((with_reducible apply Wp.seq)) | ((with_reducible apply Wp.region)) | ((with_reducible apply Wp.skip)) | ((with_reducible apply Wp.ret)) | ((with_reducible apply Wp.block)) | ((with_reducible apply Wp.exit)) | ((with_reducible apply Wp.label))) | ((with_reducible apply thenQ_n)) | ((with_reducible apply thenQ_r)) | ((with_reducible apply thenQ_e)) | ((with_reducible apply RetQ.zero); (exact rfl)) | ((with_reducible apply RetQ.zeroE); (exact rfl)) | ((with_reducible apply blockQ_n)) | ((with_reducible apply blockQ_r)) | ((with_reducible apply blockQ_here); (exact rfl)) | ((with_reducible apply blockQ_on); (decide)))
  refine ⟨rfl, ⟨by (focus ((repeat (first | assumption | refine Fr.blk (by assumption) ?_ (by first | assumption | (simp; fail_if_success (focus skip)) | (simp; omega) | (refine notinP (by assumption) ?_ ?_ <;> first | assumption | omega | (simp; fail_if_success (focus skip)) | (simp; omega)) | (focus ((repeat' (first | assumption | omega | exact List.not_mem_nil | (refine notinN (by assumption) ?_) | (refine notinC ?_ ?_))); fail_if_success (focus skip)))))); fail_if_success (focus skip))), by (focus ((repeat (first | assumption | refine Fr.blk (by assumption) ?_ (by first | assumption | (simp; fail_if_success (focus skip)) | (simp; omega) | (refine notinP (by assumption) ?_ ?_ <;> first | assumption | omega | (simp; fail_if_success (focus skip)) | (simp; omega)) | (focus ((repeat' (first | assumption | omega | exact List.not_mem_nil | (refine notinN (by assumption) ?_) | (refine notinC ?_ ?_))); fail_if_success (focus skip)))))); fail_if_success (focus skip))), ?_, h.mok, hne, h.nm, h.len, h.byt⟩, by (focus ((repeat (first | assumption | exact Fr.refl _ _ | refine Fr.back (by assumption) (by first | exact fun k hk => .inl hk | (intro k hk; simp only [List.mem_cons, List.not_mem_nil, or_false] at hk ⊢ <;> first | omega | (simp [Value.ownBlock] at hk ⊢; omega) | (simp [fp, Mtr.blocks, *]; fail_if_success (focus skip)) | (simp [fp, Mtr.blocks, *]; omega)) | (refine subP (by assumption) ?_ ?_ <;> first | omega | (simp; fail_if_success (focus skip)) | exact fun k hk => .inl hk | (intro k hk; simp at hk ⊢; omega)) | (focus (repeat' (first | exact fun k hk => .inl hk | exact fun k hk => .inl (List.mem_cons_of_mem _ hk) | exact fun k hk => .inl (List.mem_cons_of_mem _ (List.mem_cons_of_mem _ hk)) | (with_reducible refine subC ?_ ?_) | (right; omega) | (left; simp; fail_if_success (focus skip)) | (left; simp [fp]; fail_if_success (focus skip)))); fail_if_success (focus skip))) ?_)); fail_if_success (focus skip)))⟩
  exact mtr_kept h.hm (S := [g]) (by (focus ((repeat (first | assumption | exact Fr.refl _ _ | refine Fr.back (by assumption) (by first | exact fun k hk => .inl hk | (intro k hk; simp only [List.mem_cons, List.not_mem_nil, or_false] at hk ⊢ <;> first | omega | (simp [Value.ownBlock] at hk ⊢; omega) | (simp [fp, Mtr.blocks, *]; fail_if_success (focus skip)) | (simp [fp, Mtr.blocks, *]; omega)) | (refine subP (by assumption) ?_ ?_ <;> first | omega | (simp; fail_if_success (focus skip)) | exact fun k hk => .inl hk | (intro k hk; simp at hk ⊢; omega)) | (focus (repeat' (first | exact fun k hk => .inl hk | exact fun k hk => .inl (List.mem_cons_of_mem _ hk) | exact fun k hk => .inl (List.mem_cons_of_mem _ (List.mem_cons_of_mem _ hk)) | (with_reducible refine subC ?_ ?_) | (right; omega) | (left; simp; fail_if_success (focus skip)) | (left; simp [fp]; fail_if_success (focus skip)))); fail_if_success (focus skip))) ?_)); fail_if_success (focus skip)))) (by intro k hk; have := h.nm.1; simp; rintro rfl; exact this hk)

theorem powerOff_calls {g s : Nat} {M : Mem} (w : World) (h : IsMem w g s M) :
    Calls Try.prog 29 #[.pointer (some ⟨g, 0, none⟩)] w fun e w' => e = .returned (.tuple #[]) ∧ IsMem w' g s { M with off := true } ∧ Fr w w' [g] := by
  have hg := h.hg
  have hs := h.hs
  have hne := h.ne
  refine calls_Wp (args := [_]) Try.func29 rfl Try.ntmps29 (by simp) ?_
  repeat' (first | ((with_reducible show Wo _ _ _ _ _ _ _ _); first | (refine WoA.step ?_) | ((with_reducible apply Wo.nil)) | ((with_reducible apply Wo.step0)) | (refine WoA.list ?_)) | ((with_reducible show Ox _ _ _ _ _); first | (refine OxA.move ?_) | (refine OxA.nilCheck ?_) | (refine OxA.fieldAddr0 ?_) | (refine OxA.fieldAddrN ?_) | (refine OxA.fieldAddr ?_) | (refine OxA.storeAggB ?_; intro w1 hb1 hF1 hs1) | (refine OxA.storeB ?_; intro w1 hb1 hF1 hs1)) | ((with_reducible show Wp _ _ _ _ _ _ _); first | ((with_reducible apply Wp.seq)) | ((with_reducible apply Wp.region)) | ((with_reducible apply Wp.skip)) | ((with_reducible apply Wp.ret)) | ((with_reducible apply Wp.block)) | ((with_reducible apply Wp.exit)) | ((with_reducible apply Wp.label))) | ((with_reducible apply thenQ_n)) | ((with_reducible apply thenQ_r)) | ((with_reducible apply thenQ_e)) | ((with_reducible apply RetQ.zero); (exact rfl)) | ((with_reducible apply RetQ.zeroE); (exact rfl)) | ((with_reducible apply blockQ_n)) | ((with_reducible apply blockQ_r)) | ((with_reducible apply blockQ_here); (exact rfl)) | ((with_reducible apply blockQ_on); (decide)))
  refine ⟨rfl, ⟨by (focus ((repeat (first | assumption | refine Fr.blk (by assumption) ?_ (by first | assumption | (simp; fail_if_success (focus skip)) | (simp; omega) | (refine notinP (by assumption) ?_ ?_ <;> first | assumption | omega | (simp; fail_if_success (focus skip)) | (simp; omega)) | (focus ((repeat' (first | assumption | omega | exact List.not_mem_nil | (refine notinN (by assumption) ?_) | (refine notinC ?_ ?_))); fail_if_success (focus skip)))))); fail_if_success (focus skip))), by (focus ((repeat (first | assumption | refine Fr.blk (by assumption) ?_ (by first | assumption | (simp; fail_if_success (focus skip)) | (simp; omega) | (refine notinP (by assumption) ?_ ?_ <;> first | assumption | omega | (simp; fail_if_success (focus skip)) | (simp; omega)) | (focus ((repeat' (first | assumption | omega | exact List.not_mem_nil | (refine notinN (by assumption) ?_) | (refine notinC ?_ ?_))); fail_if_success (focus skip)))))); fail_if_success (focus skip))), ?_, h.mok, hne, h.nm, h.len, h.byt⟩, by (focus ((repeat (first | assumption | exact Fr.refl _ _ | refine Fr.back (by assumption) (by first | exact fun k hk => .inl hk | (intro k hk; simp only [List.mem_cons, List.not_mem_nil, or_false] at hk ⊢ <;> first | omega | (simp [Value.ownBlock] at hk ⊢; omega) | (simp [fp, Mtr.blocks, *]; fail_if_success (focus skip)) | (simp [fp, Mtr.blocks, *]; omega)) | (refine subP (by assumption) ?_ ?_ <;> first | omega | (simp; fail_if_success (focus skip)) | exact fun k hk => .inl hk | (intro k hk; simp at hk ⊢; omega)) | (focus (repeat' (first | exact fun k hk => .inl hk | exact fun k hk => .inl (List.mem_cons_of_mem _ hk) | exact fun k hk => .inl (List.mem_cons_of_mem _ (List.mem_cons_of_mem _ hk)) | (with_reducible refine subC ?_ ?_) | (right; omega) | (left; simp; fail_if_success (focus skip)) | (left; simp [fp]; fail_if_success (focus skip)))); fail_if_success (focus skip))) ?_)); fail_if_success (focus skip)))⟩
  exact mtr_kept h.hm (S := [g]) (by (focus ((repeat (first | assumption | exact Fr.refl _ _ | refine Fr.back (by assumption) (by first | exact fun k hk => .inl hk | (intro k hk; simp only [List.mem_cons, List.not_mem_nil, or_false] at hk ⊢ <;> first | omega | (simp [Value.ownBlock] at hk ⊢; omega) | (simp [fp, Mtr.blocks, *]; fail_if_success (focus skip)) | (simp [fp, Mtr.blocks, *]; omega)) | (refine subP (by assumption) ?_ ?_ <;> first | omega | (simp; fail_if_success (focus skip)) | exact fun k hk => .inl hk | (intro k hk; simp at hk ⊢; omega)) | (focus (repeat' (first | exact fun k hk => .inl hk | exact fun k hk => .inl (List.mem_cons_of_mem _ hk) | exact fun k hk => .inl (List.mem_cons_of_mem _ (List.mem_cons_of_mem _ hk)) | (with_reducible refine subC ?_ ?_) | (right; omega) | (left; simp; fail_if_success (focus skip)) | (left; simp [fp]; fail_if_success (focus skip)))); fail_if_success (focus skip))) ?_)); fail_if_success (focus skip)))) (by intro k hk; have := h.nm.1; simp; rintro rfl; exact this hk)

theorem powerOn_calls {g s : Nat} {M : Mem} (w : World) (h : IsMem w g s M) :
    Calls Try.prog 30 #[.pointer (some ⟨g, 0, none⟩)] w fun e w' => e = .returned (.tuple #[]) ∧ IsMem w' g s { M with off := false, armed := false } ∧ Fr w w' [g] := by
  have hg := h.hg
  have hs := h.hs
  have hne := h.ne
  refine calls_Wp (args := [_]) Try.func30 rfl Try.ntmps30 (by simp) ?_
  repeat' (first | ((with_reducible show Wo _ _ _ _ _ _ _ _); first | (refine WoA.step ?_) | ((with_reducible apply Wo.nil)) | ((with_reducible apply Wo.step0)) | (refine WoA.list ?_)) | ((with_reducible show Ox _ _ _ _ _); first | (refine OxA.move ?_) | (refine OxA.nilCheck ?_) | (refine OxA.fieldAddr0 ?_) | (refine OxA.fieldAddrN ?_) | (refine OxA.fieldAddr ?_) | (refine OxA.storeAggB ?_; intro w1 hb1 hF1 hs1) | (refine OxA.storeB ?_; intro w1 hb1 hF1 hs1)) | ((with_reducible show Wp _ _ _ _ _ _ _); first | ((with_reducible apply Wp.seq)) | ((with_reducible apply Wp.region)) | ((with_reducible apply Wp.skip)) | ((with_reducible apply Wp.ret)) | ((with_reducible apply Wp.block)) | ((with_reducible apply Wp.exit)) | ((with_reducible apply Wp.label))) | ((with_reducible apply thenQ_n)) | ((with_reducible apply thenQ_r)) | ((with_reducible apply thenQ_e)) | ((with_reducible apply RetQ.zero); (exact rfl)) | ((with_reducible apply RetQ.zeroE); (exact rfl)) | ((with_reducible apply blockQ_n)) | ((with_reducible apply blockQ_r)) | ((with_reducible apply blockQ_here); (exact rfl)) | ((with_reducible apply blockQ_on); (decide)))
  refine ⟨rfl, ⟨by (focus ((repeat (first | assumption | refine Fr.blk (by assumption) ?_ (by first | assumption | (simp; fail_if_success (focus skip)) | (simp; omega) | (refine notinP (by assumption) ?_ ?_ <;> first | assumption | omega | (simp; fail_if_success (focus skip)) | (simp; omega)) | (focus ((repeat' (first | assumption | omega | exact List.not_mem_nil | (refine notinN (by assumption) ?_) | (refine notinC ?_ ?_))); fail_if_success (focus skip)))))); fail_if_success (focus skip))), by (focus ((repeat (first | assumption | refine Fr.blk (by assumption) ?_ (by first | assumption | (simp; fail_if_success (focus skip)) | (simp; omega) | (refine notinP (by assumption) ?_ ?_ <;> first | assumption | omega | (simp; fail_if_success (focus skip)) | (simp; omega)) | (focus ((repeat' (first | assumption | omega | exact List.not_mem_nil | (refine notinN (by assumption) ?_) | (refine notinC ?_ ?_))); fail_if_success (focus skip)))))); fail_if_success (focus skip))), ?_, h.mok, hne, h.nm, h.len, h.byt⟩, by (focus ((repeat (first | assumption | exact Fr.refl _ _ | refine Fr.back (by assumption) (by first | exact fun k hk => .inl hk | (intro k hk; simp only [List.mem_cons, List.not_mem_nil, or_false] at hk ⊢ <;> first | omega | (simp [Value.ownBlock] at hk ⊢; omega) | (simp [fp, Mtr.blocks, *]; fail_if_success (focus skip)) | (simp [fp, Mtr.blocks, *]; omega)) | (refine subP (by assumption) ?_ ?_ <;> first | omega | (simp; fail_if_success (focus skip)) | exact fun k hk => .inl hk | (intro k hk; simp at hk ⊢; omega)) | (focus (repeat' (first | exact fun k hk => .inl hk | exact fun k hk => .inl (List.mem_cons_of_mem _ hk) | exact fun k hk => .inl (List.mem_cons_of_mem _ (List.mem_cons_of_mem _ hk)) | (with_reducible refine subC ?_ ?_) | (right; omega) | (left; simp; fail_if_success (focus skip)) | (left; simp [fp]; fail_if_success (focus skip)))); fail_if_success (focus skip))) ?_)); fail_if_success (focus skip)))⟩
  exact mtr_kept h.hm (S := [g]) (by (focus ((repeat (first | assumption | exact Fr.refl _ _ | refine Fr.back (by assumption) (by first | exact fun k hk => .inl hk | (intro k hk; simp only [List.mem_cons, List.not_mem_nil, or_false] at hk ⊢ <;> first | omega | (simp [Value.ownBlock] at hk ⊢; omega) | (simp [fp, Mtr.blocks, *]; fail_if_success (focus skip)) | (simp [fp, Mtr.blocks, *]; omega)) | (refine subP (by assumption) ?_ ?_ <;> first | omega | (simp; fail_if_success (focus skip)) | exact fun k hk => .inl hk | (intro k hk; simp at hk ⊢; omega)) | (focus (repeat' (first | exact fun k hk => .inl hk | exact fun k hk => .inl (List.mem_cons_of_mem _ hk) | exact fun k hk => .inl (List.mem_cons_of_mem _ (List.mem_cons_of_mem _ hk)) | (with_reducible refine subC ?_ ?_) | (right; omega) | (left; simp; fail_if_success (focus skip)) | (left; simp [fp]; fail_if_success (focus skip)))); fail_if_success (focus skip))) ?_)); fail_if_success (focus skip)))) (by intro k hk; have := h.nm.1; simp; rintro rfl; exact this hk)

theorem off_calls {g s : Nat} {M : Mem} (w : World) (h : IsMem w g s M) : Calls Try.prog 28 #[.pointer (some ⟨g, 0, none⟩)] w (Same w (.bool M.off)) := by
  have hg := h.hg
  refine calls_Wp (args := [_]) Try.func28 rfl Try.ntmps28 (by simp) ?_
  repeat' (first | ((with_reducible show Wo _ _ _ _ _ _ _ _); first | (refine WoA.step ?_) | ((with_reducible apply Wo.nil)) | ((with_reducible apply Wo.step0)) | (refine WoA.list ?_)) | ((with_reducible show Ox _ _ _ _ _); first | (refine OxA.move ?_) | (refine OxA.nilCheck ?_) | (refine OxA.fieldAddr0 ?_) | (refine OxA.fieldAddrN ?_) | (refine OxA.fieldAddr ?_) | (refine OxA.load ?_) | (refine OxA.assign ?_) | (refine OxA.loadAggB ?_)) | ((with_reducible show Wp _ _ _ _ _ _ _); first | ((with_reducible apply Wp.seq)) | ((with_reducible apply Wp.region)) | ((with_reducible apply Wp.skip)) | ((with_reducible apply Wp.ret)) | ((with_reducible apply Wp.block)) | ((with_reducible apply Wp.exit)) | ((with_reducible apply Wp.label))) | ((with_reducible apply thenQ_n)) | ((with_reducible apply thenQ_r)) | ((with_reducible apply thenQ_e)) | ((with_reducible apply RetQ.one); (exact rfl); (conv => lhs; whnf)) | ((with_reducible apply blockQ_n)) | ((with_reducible apply blockQ_r)) | ((with_reducible apply blockQ_here); (exact rfl)) | ((with_reducible apply blockQ_on); (decide)))
  exact ⟨rfl, rfl⟩

theorem image_calls {g s : Nat} {M : Mem} (w : World) (h : IsMem w g s M) :
    Calls Try.prog 54 #[.pointer (some ⟨g, 0, none⟩)] w fun e w' => ∃ v', e = .returned v' ∧ Fresh w w' v' M.b := by
  have hg := h.hg
  have hr := h.rdb 0 M.b.length (by omega)
  simp only [List.drop_zero, List.take_length, Nat.sub_zero] at hr
  have hlen := h.len
  refine calls_Wp (args := [_]) Try.func54 rfl Try.ntmps54 (by simp) ?_
  repeat' (first | ((with_reducible show Calls _ _ _ _ _); first | (refine (clone_calls _ hr (by omega)).mono ?_; rintro e w1 ⟨v1, rfl, hfr⟩; refine ⟨_, rfl, ?_⟩)) | ((with_reducible show Wo _ _ _ _ _ _ _ _); first | (refine WoA.step ?_) | ((with_reducible apply Wo.nil)) | ((with_reducible apply Wo.step0)) | (refine WoA.list ?_)) | ((with_reducible show Ox _ _ _ _ _); first | (refine OxA.move ?_) | (refine OxA.nilCheck ?_) | (refine OxA.fieldAddr0 ?_) | (refine OxA.fieldAddrN ?_) | (refine OxA.fieldAddr ?_) | (refine OxA.load ?_) | (refine OxA.assign ?_) | (refine OxA.loadAggB ?_) | (refine OxA.call1 ?_)) | ((with_reducible show Wp _ _ _ _ _ _ _); first | ((with_reducible apply Wp.seq)) | ((with_reducible apply Wp.region)) | ((with_reducible apply Wp.skip)) | ((with_reducible apply Wp.ret)) | ((with_reducible apply Wp.block)) | ((with_reducible apply Wp.exit)) | ((with_reducible apply Wp.label))) | ((with_reducible apply thenQ_n)) | ((with_reducible apply thenQ_r)) | ((with_reducible apply thenQ_e)) | ((with_reducible apply RetQ.one); (exact rfl); (conv => lhs; whnf)) | ((with_reducible apply blockQ_n)) | ((with_reducible apply blockQ_r)) | ((with_reducible apply blockQ_here); (exact rfl)) | ((with_reducible apply blockQ_on); (decide)))
  exact ⟨_, rfl, hfr⟩

theorem load_calls {g s : Nat} {M : Mem} (v : Value) (l : List Int) (w : World) (h : IsMem w g s M) (hl : RdB w [s] v l) (hln : l.length ≤ 140737488351232) :
    Calls Try.prog 33 #[.pointer (some ⟨g, 0, none⟩), v] w fun e w' =>
      e = .returned (.int .i64 (if l.length = M.b.length then 0 else 1)) ∧ IsMem w' g s (if l.length = M.b.length then { M with b := l } else M) ∧ Fr w w' [s] := by
  have hr := hl
  have hg := h.hg
  have hs := h.hs
  have hlen := h.len
  obtain ⟨a, c, rfl, h2, h0, h3⟩ := hl
  by_cases he : l.length = M.b.length
  · rw [if_pos he, if_pos he]
    refine calls_Wp (args := [_, _]) Try.func33 rfl Try.ntmps33 (by simp) ?_
    repeat' (first | ((with_reducible show Wo _ _ _ _ _ _ _ _); first | (refine WoA.step ?_) | ((with_reducible apply Wo.nil)) | ((with_reducible apply Wo.step0)) | (refine WoA.list ?_)) | ((with_reducible show Ox _ _ _ _ _); first | ((with_reducible apply Ox.copyB); (exact rfl); (conv => lhs; whnf); (exact hr.rd); (simp); (exact oneCell_bytes l); (focus ((repeat (first | assumption | refine Fr.blk (by assumption) ?_ (by first | assumption | (simp; fail_if_success (focus skip)) | (simp; omega) | (refine notinP (by assumption) ?_ ?_ <;> first | assumption | omega | (simp; fail_if_success (focus skip)) | (simp; omega)) | (focus ((repeat' (first | assumption | omega | exact List.not_mem_nil | (refine notinN (by assumption) ?_) | (refine notinC ?_ ?_))); fail_if_success (focus skip)))))); fail_if_success (focus skip))); (simp); (intro w1 hb1 hF1 hs1)) | (refine OxA.move ?_) | (refine OxA.nilCheck ?_) | (refine OxA.fieldAddr0 ?_) | (refine OxA.fieldAddrN ?_) | (refine OxA.fieldAddr ?_) | (refine OxA.load ?_) | (refine OxA.assign ?_) | (refine OxA.neq ?_) | (refine OxA.loadAggB ?_) | (refine OxA.neqBV ?_) | (refine OxA.neqB ?_) | (refine OxA.len ?_) | ((with_reducible apply Ox.neqSame); (exact rfl); (exact rfl)) | (refine OxA.neqS ?_) | (refine OxA.lenS ?_)) | ((with_reducible show Wp _ _ _ _ _ _ _); first | ((with_reducible apply Wp.seq)) | ((with_reducible apply Wp.region)) | ((with_reducible apply Wp.skip)) | ((with_reducible apply Wp.ret)) | (refine WpA.condT ?_) | (refine WpA.condF ?_) | (refine WpA.condTo ?_) | (refine WpA.condFo ?_) | ((with_reducible apply Wp.cond); (exact rfl); all_goals (intro hb; (have hb0 := hb; try simp only [decide_eq_true_eq, decide_eq_false_iff_not, Bool.not_eq_true', Bool.not_eq_false', Int.not_lt, Int.not_le, ne_eq, Decidable.not_not] at hb0); (try (exfalso; first | contradiction | omega)))) | ((with_reducible apply Wp.block)) | ((with_reducible apply Wp.exit)) | ((with_reducible apply Wp.label))) | ((with_reducible apply thenQ_n)) | ((with_reducible apply thenQ_r)) | ((with_reducible apply thenQ_e)) | ((with_reducible apply RetQ.one); (exact rfl); (conv => lhs; whnf)) | ((with_reducible apply blockQ_n)) | ((with_reducible apply blockQ_r)) | ((with_reducible apply blockQ_here); (exact rfl)) | ((with_reducible apply blockQ_on); (decide)))
    have hb2 : w1.heap[s]? = some (.cells (bytesV l).toArray 5 (0, 0)) := by
      have e1 : List.take l.length (bytesV l) = bytesV l := List.take_of_length_le (by simp)
      have e2 : List.drop l.length (List.map (Value.int .u8) M.b) = [] := List.drop_of_length_le (by simp [he])
      rw [hb1]; simp [← he, e1, e2]
    have hg2 := hF1.blk hg (by simp [h.ne])
    rw [← he] at hg2
    refine ⟨rfl, ⟨hg2, hb2, ?_, h.mok, h.ne, h.nm, by rw [he]; exact h.len, ?_⟩, hF1⟩
    · exact mtr_kept h.hm (S := [s]) hF1 (by intro k hk; have := h.nm.2; simp; rintro rfl; exact this hk)
    · exact h0
  · rw [if_neg he, if_neg he]
    refine calls_Wp (args := [_, _]) Try.func33 rfl Try.ntmps33 (by simp) ?_
    repeat' (first | ((with_reducible show Wo _ _ _ _ _ _ _ _); first | (refine WoA.step ?_) | ((with_reducible apply Wo.nil)) | ((with_reducible apply Wo.step0)) | (refine WoA.list ?_)) | ((with_reducible show Ox _ _ _ _ _); first | (refine OxA.move ?_) | (refine OxA.nilCheck ?_) | (refine OxA.fieldAddr0 ?_) | (refine OxA.fieldAddrN ?_) | (refine OxA.fieldAddr ?_) | (refine OxA.load ?_) | (refine OxA.assign ?_) | (refine OxA.neq ?_) | (refine OxA.loadAggB ?_) | (refine OxA.neqBV ?_) | (refine OxA.neqB ?_) | (refine OxA.len ?_) | ((with_reducible apply Ox.neqSame); (exact rfl); (exact rfl)) | (refine OxA.neqS ?_) | (refine OxA.lenS ?_)) | ((with_reducible show Wp _ _ _ _ _ _ _); first | ((with_reducible apply Wp.seq)) | ((with_reducible apply Wp.region)) | ((with_reducible apply Wp.skip)) | ((with_reducible apply Wp.ret)) | (refine WpA.condT ?_) | (refine WpA.condF ?_) | (refine WpA.condTo ?_) | (refine WpA.condFo ?_) | ((with_reducible apply Wp.cond); (exact rfl); all_goals (intro hb; (have hb0 := hb; try simp only [decide_eq_true_eq, decide_eq_false_iff_not, Bool.not_eq_true', Bool.not_eq_false', Int.not_lt, Int.not_le, ne_eq, Decidable.not_not] at hb0); (try (exfalso; first | contradiction | omega)))) | ((with_reducible apply Wp.block)) | ((with_reducible apply Wp.exit)) | ((with_reducible apply Wp.label))) | ((with_reducible apply thenQ_n)) | ((with_reducible apply thenQ_r)) | ((with_reducible apply thenQ_e)) | ((with_reducible apply RetQ.one); (exact rfl); (conv => lhs; whnf)) | ((with_reducible apply blockQ_n)) | ((with_reducible apply blockQ_r)) | ((with_reducible apply blockQ_here); (exact rfl)) | ((with_reducible apply blockQ_on); (decide)))
    exact ⟨rfl, h, Fr.refl _ _⟩

theorem new_calls (n : Int) (w : World) (hn : -9223372036854775808 ≤ n ∧ n ≤ 9223372036854775807) :
    Calls Try.prog 19 #[.int .i64 n] w fun e w' =>
      (n < 1 ∨ 65536 < n) ∧ e = .returned (.tuple #[.pointer none, .int .i64 1]) ∧ Fr w w' [] ∨
      (1 ≤ n ∧ n ≤ 65536) ∧ ∃ g s, w.heap.size ≤ g ∧ w.heap.size ≤ s ∧ e = .returned (.tuple #[.pointer (some ⟨g, 0, none⟩), .int .i64 0]) ∧ IsMem w' g s ⟨List.replicate n.toNat 0, false, false, 0, .off, 0⟩ ∧ Fr w w' [] := by
  by_cases h : 1 ≤ n ∧ n ≤ 65536
  · obtain ⟨h1, h2⟩ := h
    refine calls_Wp (args := [_]) Try.func19 rfl Try.ntmps19 (by simp) ?_
    repeat' (first | ((with_reducible show Wo _ _ _ _ _ _ _ _); first | (refine WoA.step ?_) | ((with_reducible apply Wo.nil)) | ((with_reducible apply Wo.step0)) | (refine WoA.list ?_) | (refine WoA.yesT ?_) | (refine WoA.yesF ?_) | (refine WoA.noT ?_) | (refine WoA.noF ?_) | (refine WoA.noU ?_) | (refine WoA.yesTo ?_) | (refine WoA.yesFo ?_) | (refine WoA.noTo ?_) | (refine WoA.noFo ?_) | ((with_reducible apply Wo.part); (exact rfl); (exact rfl); (exact rfl); all_goals (intro hb; (have hb0 := hb; try simp only [decide_eq_true_eq, decide_eq_false_iff_not, Bool.not_eq_true', Bool.not_eq_false', Int.not_lt, Int.not_le, ne_eq, Decidable.not_not] at hb0); (try (exfalso; first | contradiction | omega))))) | ((with_reducible show Ox _ _ _ _ _); first | ((with_reducible apply Ox.makeB); (exact rfl); (exact rfl); (omega); (omega); (omega); (omega); (intro b2 w2 hb2 hF2 hg2 hs2)) | (refine OxA.move ?_) | (refine OxA.assign ?_) | (refine OxA.pickT ?_) | (refine OxA.pickF ?_) | (refine OxA.pickTo ?_) | (refine OxA.pickFo ?_) | (refine OxA.lss ?_) | (refine OxA.gtr ?_) | (refine OxB.buildE ?_) | (refine OxA.boxB ?_; intro b1 w1 hb1 hF1 hg1 hs1)) | ((with_reducible show Wp _ _ _ _ _ _ _); first | ((with_reducible apply Wp.seq)) | ((with_reducible apply Wp.region)) | ((with_reducible apply Wp.skip)) | ((with_reducible apply Wp.ret)) | (refine WpA.condT ?_) | (refine WpA.condF ?_) | (refine WpA.condTo ?_) | (refine WpA.condFo ?_) | ((with_reducible apply Wp.cond); (exact rfl); all_goals (intro hb; (have hb0 := hb; try simp only [decide_eq_true_eq, decide_eq_false_iff_not, Bool.not_eq_true', Bool.not_eq_false', Int.not_lt, Int.not_le, ne_eq, Decidable.not_not] at hb0); (try (exfalso; first | contradiction | omega)))) | ((with_reducible apply Wp.block)) | ((with_reducible apply Wp.exit)) | ((with_reducible apply Wp.label))) | ((with_reducible apply thenQ_n)) | ((with_reducible apply thenQ_r)) | ((with_reducible apply thenQ_e)) | ((with_reducible apply RetQ.two); (exact rfl); (conv => lhs; whnf); (conv => lhs; whnf)) | ((with_reducible apply blockQ_n)) | ((with_reducible apply blockQ_r)) | ((with_reducible apply blockQ_here); (exact rfl)) | ((with_reducible apply blockQ_on); (decide)))
    refine .inr ⟨⟨h1, h2⟩, b1, b2, by omega, by omega, rfl, ⟨?_, ?_, trivial, trivial, by omega, by simp [Mtr.blocks], by simp; omega, by simp⟩, by (focus ((repeat (first | assumption | exact Fr.refl _ _ | refine Fr.back (by assumption) (by first | exact fun k hk => .inl hk | (intro k hk; simp only [List.mem_cons, List.not_mem_nil, or_false] at hk ⊢ <;> first | omega | (simp [Value.ownBlock] at hk ⊢; omega) | (simp [fp, Mtr.blocks, *]; fail_if_success (focus skip)) | (simp [fp, Mtr.blocks, *]; omega)) | (refine subP (by assumption) ?_ ?_ <;> first | omega | (simp; fail_if_success (focus skip)) | exact fun k hk => .inl hk | (intro k hk; simp at hk ⊢; omega)) | (focus (repeat' (first | exact fun k hk => .inl hk | exact fun k hk => .inl (List.mem_cons_of_mem _ hk) | exact fun k hk => .inl (List.mem_cons_of_mem _ (List.mem_cons_of_mem _ hk)) | (with_reducible refine subC ?_ ?_) | (right; omega) | (left; simp; fail_if_success (focus skip)) | (left; simp [fp]; fail_if_success (focus skip)))); fail_if_success (focus skip))) ?_)); fail_if_success (focus skip)))⟩
    · simp only [List.length_replicate]; exact hb1
    · have hb3 := hF1.blk hb2 (by simp)
      rw [hb3]; simp [← Array.toList_inj]; exact toList_madeCells_one _ _
  · refine calls_Wp (args := [_]) Try.func19 rfl Try.ntmps19 (by simp) ?_
    repeat' (first | ((with_reducible show Wo _ _ _ _ _ _ _ _); first | (refine WoA.step ?_) | ((with_reducible apply Wo.nil)) | ((with_reducible apply Wo.step0)) | (refine WoA.list ?_) | (refine WoA.yesT ?_) | (refine WoA.yesF ?_) | (refine WoA.noT ?_) | (refine WoA.noF ?_) | (refine WoA.noU ?_) | (refine WoA.yesTo ?_) | (refine WoA.yesFo ?_) | (refine WoA.noTo ?_) | (refine WoA.noFo ?_) | ((with_reducible apply Wo.part); (exact rfl); (exact rfl); (exact rfl); all_goals (intro hb; (have hb0 := hb; try simp only [decide_eq_true_eq, decide_eq_false_iff_not, Bool.not_eq_true', Bool.not_eq_false', Int.not_lt, Int.not_le, ne_eq, Decidable.not_not] at hb0); (try (exfalso; first | contradiction | omega))))) | ((with_reducible show Ox _ _ _ _ _); first | (refine OxA.move ?_) | (refine OxA.assign ?_) | (refine OxA.pickT ?_) | (refine OxA.pickF ?_) | (refine OxA.pickTo ?_) | (refine OxA.pickFo ?_) | (refine OxA.lss ?_) | (refine OxA.gtr ?_) | (refine OxB.buildE ?_) | (refine OxA.boxB ?_; intro b1 w1 hb1 hF1 hg1 hs1)) | ((with_reducible show Wp _ _ _ _ _ _ _); first | ((with_reducible apply Wp.seq)) | ((with_reducible apply Wp.region)) | ((with_reducible apply Wp.skip)) | ((with_reducible apply Wp.ret)) | (refine WpA.condT ?_) | (refine WpA.condF ?_) | (refine WpA.condTo ?_) | (refine WpA.condFo ?_) | ((with_reducible apply Wp.cond); (exact rfl); all_goals (intro hb; (have hb0 := hb; try simp only [decide_eq_true_eq, decide_eq_false_iff_not, Bool.not_eq_true', Bool.not_eq_false', Int.not_lt, Int.not_le, ne_eq, Decidable.not_not] at hb0); (try (exfalso; first | contradiction | omega)))) | ((with_reducible apply Wp.block)) | ((with_reducible apply Wp.exit)) | ((with_reducible apply Wp.label))) | ((with_reducible apply thenQ_n)) | ((with_reducible apply thenQ_r)) | ((with_reducible apply thenQ_e)) | ((with_reducible apply RetQ.two); (exact rfl); (conv => lhs; whnf); (conv => lhs; whnf)) | ((with_reducible apply blockQ_n)) | ((with_reducible apply blockQ_r)) | ((with_reducible apply blockQ_here); (exact rfl)) | ((with_reducible apply blockQ_on); (decide)))
    all_goals exact .inl ⟨by omega, rfl, Fr.refl _ _⟩

/-- The two bytes of a word. -/
def wordL (x : Int) : List Int := [IntKind.u8.wrap x, IntKind.u8.wrap (IntKind.u16.wrap x / 256)]

theorem rdb_two {w1 : World} {S : List Nat} {b : Nat} {x y : Int} (hb : w1.heap[b]? = some (.cells #[.int .u8 x, .int .u8 y] 5 (0, 0))) (hx : 0 ≤ x ∧ x < 256) (hy : 0 ≤ y ∧ y < 256) (hS : b ∉ S) :
    RdB w1 S (.slice (some ⟨b, 0, none⟩) 2 2) [x, y] := by
  refine ⟨_, 2, rfl, Nat.le_refl _, by simp; exact ⟨hx, hy⟩, .inr ⟨b, 0, rfl, hS, (Array.getElem?_eq_some_iff.1 hb).1, ?_⟩⟩
  intro j hj
  simp at hj
  rcases (by omega : j = 0 ∨ j = 1) with rfl | rfl
  · exact cell_of hb rfl
  · exact cell_of hb rfl

theorem IsMem.fp_lt {w : World} {g s : Nat} {M : Mem} (h : IsMem w g s M) : ∀ k, k ∈ fp g s M → k < w.heap.size := by
  intro k hk
  have h1 : ∀ {b : Nat} {o : Obj}, w.heap[b]? = some o → b < w.heap.size := fun hb => (Array.getElem?_eq_some_iff.1 hb).1
  have hm := h.hm
  simp only [fp, List.mem_cons] at hk
  rcases hk with rfl | rfl | hk
  · exact h1 h.hg
  · exact h1 h.hs
  · revert hm hk
    cases M.mtr with
    | off => intro _ hk; simp [Mtr.blocks] at hk
    | down c n => intro hm hk; simp [Mtr.blocks] at hk; subst hk; exact h1 hm
    | up c d n k => intro hm hk; simp [Mtr.blocks] at hk; rcases hk with rfl | rfl; exact h1 hm.1; exact h1 hm.2.1

theorem WPost.mono {w w1 : World} {g s : Nat} {M : Mem} {r : Bool × Mem} (hf : Fr w w1 []) {e : Ending} {w' : World} (h : WPost w1 g s M r e w') : WPost w g s M r e w' :=
  ⟨h.1, h.2.1, Fr.back h.2.2 (fun _ hx => .inl hx) (hf.mono (by simp))⟩

theorem writeWord_calls {g s : Nat} {M : Mem} (addr x : Int) (w : World) (h : IsMem w g s M) (ha : -9223372036854775808 ≤ addr ∧ addr ≤ 9223372036854775807) (hx : -32768 ≤ x ∧ x ≤ 32767) :
    Calls Try.prog 22 #[.pointer (some ⟨g, 0, none⟩), .int .i64 addr, .int .i16 x] w (WPost w g s M (M.writeBytes addr (wordL x))) := by
  refine calls_Wp (args := [_, _, _]) Try.func22 rfl Try.ntmps22 (by simp) ?_
  repeat' (first | ((with_reducible show Calls _ _ _ _ _); first | (refine (writeBytes_calls addr _ (wordL x) w1 (h.kept hF1 (by simp)) ha ?_ (by simp [wordL])).mono ?_; rotate_left 1; rintro e w2 ⟨rfl, hm2, hF2⟩; refine ⟨_, rfl, ?_⟩)) | ((with_reducible show Wo _ _ _ _ _ _ _ _); first | (refine WoA.step ?_) | ((with_reducible apply Wo.nil)) | ((with_reducible apply Wo.step0)) | (refine WoA.list ?_)) | ((with_reducible show Ox _ _ _ _ _); first | (refine OxA.move ?_) | (refine OxA.assign ?_) | (refine OxA.convSame ?_; intro w1 hb1 hF1 hs1) | (refine OxA.convI ?_) | (refine OxA.conv ?_) | (refine OxA.call3 ?_) | (refine OxA.shrC ?_) | ((with_reducible apply Ox.bs0); intro b1 w1 hb1 hF1 hg1 hs1) | (refine OxA.bs1 ?_; intro b1 w1 hb1 hF1 hg1 hs1) | (refine OxA.bs2 ?_; intro b1 w1 hb1 hF1 hg1 hs1) | (refine OxB.bsE ?_; intro b1 w1 hb1 hF1 hg1 hs1)) | ((with_reducible show Wp _ _ _ _ _ _ _); first | ((with_reducible apply Wp.seq)) | ((with_reducible apply Wp.region)) | ((with_reducible apply Wp.skip)) | ((with_reducible apply Wp.ret)) | ((with_reducible apply Wp.block)) | ((with_reducible apply Wp.exit)) | ((with_reducible apply Wp.label))) | ((with_reducible apply thenQ_n)) | ((with_reducible apply thenQ_r)) | ((with_reducible apply thenQ_e)) | ((with_reducible apply RetQ.one); (exact rfl); (conv => lhs; whnf)) | ((with_reducible apply blockQ_n)) | ((with_reducible apply blockQ_r)) | ((with_reducible apply blockQ_here); (exact rfl)) | ((with_reducible apply blockQ_on); (decide)))
  · exact ⟨rfl, hm2, Fr.back hF2 (fun _ hx => .inl hx) (hF1.mono (by simp))⟩
  · exact rdb_two hb1 (by rw [IntKind.wrap_u8]; omega) (by rw [IntKind.wrap_u8]; omega) (fun hc => by have := h.fp_lt _ hc; omega)

end Go.Proofs.Ythpdpipcfhodoaa
