/- Plain laws of writes one after the other, and of cells, in lists. No condition. -/
import Derived.Test.YthpdpipcfhodoaaCell
import Derived.Test.YthpdpipcfhodoaaPuts
namespace Go.Proofs.Ythpdpipcfhodoaa
open Go.RowKit
set_option linter.unusedSimpArgs false
set_option maxHeartbeats 4000000
set_option linter.unusedVariables false

/-! ### Cells -/
def curL (x y : Int) : Int × Int := if x = 0 ∧ y = 0 then (-1, 0) else if x = 0 ∨ (y ≠ 0 ∧ y = nextG x) then (1, y) else (0, x)
def fl (x : Int) : Int := if 3 < x then 0 else x
def Cl.flagB (C : Cl) (b : List Int) (i : Int) : Int := fl (b.getD (C.copyAt i).toNat 0)
def Cl.curB (C : Cl) (b : List Int) : Int × Int := curL (C.flagB b 0) (C.flagB b 1)
def Cl.readB (C : Cl) (b : List Int) : List Int × Int × Bool :=
  if (C.curB b).1 < 0 then ([], 0, false) else ((b.drop (C.copyAt (C.curB b).1 + 1).toNat).take C.size.toNat, (C.curB b).2, true)
def Cl.at (C : Cl) (b : List Int) : Int := if (C.curB b).1 = 0 then C.copyAt 1 else C.copyAt 0
def Cl.steps (C : Cl) (b l : List Int) : List (Int × Int) := (C.at b, 0) :: (addrL (C.at b + 1) l ++ [(C.at b, IntKind.u8.wrap (nextG (C.curB b).2))])

theorem Cl.flag_on {C : Cl} {M : Mem} (h : C.Ok M.b.length) (ho : M.off = false) {i : Int} (hi : i = 0 ∨ i = 1) : C.flag M i = C.flagB M.b i := by
  have h1 := Cl.copyAt_in h hi
  have h2 := h.size
  unfold Cl.flag Cl.flagB fl
  rw [Mem.read_on ho (by omega) (by omega)]
theorem Cl.cur_on {C : Cl} {M : Mem} (h : C.Ok M.b.length) (ho : M.off = false) : C.current M = C.curB M.b := by
  unfold Cl.curB
  rw [← Cl.flag_on h ho (.inl rfl), ← Cl.flag_on h ho (.inr rfl)]
  rfl
theorem Cl.cur_off {C : Cl} {M : Mem} (ho : M.off = true) : C.current M = (-1, 0) := by
  have : ∀ i, C.flag M i = 0 := fun i => by unfold Cl.flag; rw [Mem.read_off ho]; rfl
  unfold Cl.current
  rw [this, this]; rfl
theorem fl_in {x : Int} (h : 0 ≤ x) : 0 ≤ fl x ∧ fl x ≤ 3 := by unfold fl; split <;> omega
theorem curL_in {x y : Int} (hx : 0 ≤ x ∧ x ≤ 3) (hy : 0 ≤ y ∧ y ≤ 3) : ((curL x y).1 = -1 ∧ (curL x y).2 = 0 ∨ (curL x y).1 = 0 ∧ (curL x y).2 = x ∧ 1 ≤ x ∨ (curL x y).1 = 1 ∧ (curL x y).2 = y ∧ 1 ≤ y) := by
  unfold curL
  split
  · exact .inl ⟨rfl, rfl⟩
  · split
    · exact .inr (.inr ⟨rfl, rfl, by omega⟩)
    · exact .inr (.inl ⟨rfl, rfl, by omega⟩)
theorem nextG_in {g : Int} (h : 0 ≤ g ∧ g ≤ 3) : 1 ≤ nextG g ∧ nextG g ≤ 3 ∧ (nextG g = if g = 3 then 1 else g + 1) := by
  unfold nextG
  rcases (by omega : g = 0 ∨ g = 1 ∨ g = 2 ∨ g = 3) with rfl | rfl | rfl | rfl <;> decide

theorem u8_small {g : Int} (h : 0 ≤ g ∧ g ≤ 3) : IntKind.u8.wrap g = g := by rw [IntKind.wrap_u8]; omega
theorem Cl.flagB_in {C : Cl} {b : List Int} (hb : ∀ x ∈ b, 0 ≤ x ∧ x < 256) (i : Int) : 0 ≤ C.flagB b i ∧ C.flagB b i ≤ 3 := by
  unfold Cl.flagB
  refine fl_in ?_
  rw [List.getD_eq_getElem?_getD]
  cases h : b[(C.copyAt i).toNat]? with
  | none => simp
  | some x => simpa using (hb x (List.mem_of_getElem? h)).1
/-- What a cell holds: the flags of the two copies and their values. -/
def Cl.vals (C : Cl) (b : List Int) (i : Int) : List Int := (b.drop (C.copyAt i + 1).toNat).take C.size.toNat
theorem Cl.curB_eq {C : Cl} {b b' : List Int} (h0 : C.flagB b' 0 = C.flagB b 0) (h1 : C.flagB b' 1 = C.flagB b 1) : C.curB b' = C.curB b := by unfold Cl.curB; rw [h0, h1]

/-- Writes within copy `i` leave the other copy `j` alone. -/
theorem Cl.other {C : Cl} {b : List Int} (h : C.Ok b.length) {i j : Int} (hij : i = 0 ∧ j = 1 ∨ i = 1 ∧ j = 0) (ps : List (Int × Int)) (hp : ∀ p ∈ ps, C.copyAt i ≤ p.1 ∧ p.1 < C.copyAt i + C.size + 1) :
    C.flagB (putAll b ps) j = C.flagB b j ∧ C.vals (putAll b ps) j = C.vals b j := by
  obtain ⟨h1, h2, h3, h4⟩ := h
  have e0 : C.copyAt 0 = C.addr := by unfold Cl.copyAt; omega
  have e1 : C.copyAt 1 = C.addr + (C.size + 1) := by unfold Cl.copyAt; omega
  constructor
  · unfold Cl.flagB
    rw [List.getD_eq_getElem?_getD, List.getD_eq_getElem?_getD, putAll_out]
    intro p hpm
    have := hp p hpm
    rcases hij with ⟨rfl, rfl⟩ | ⟨rfl, rfl⟩
    · rw [e0] at this; rw [e1]; omega
    · rw [e1] at this; rw [e0]; omega
  · unfold Cl.vals
    refine putAll_cut _ _ fun p hpm => ?_
    have := hp p hpm
    rcases hij with ⟨rfl, rfl⟩ | ⟨rfl, rfl⟩
    · rw [e0] at this; rw [e1]; omega
    · rw [e1] at this; rw [e0]; omega

/-- The copy being written: its flag behind the first `n` byte writes (one at least). -/
theorem flag_part {t g : Int} {l b : List Int} {n : Nat} (ht : 0 ≤ t) (htl : t + l.length + 1 ≤ b.length) (hn : 1 ≤ n) :
    (putAll b (((t, 0) :: (addrL (t + 1) l ++ [(t, g)])).take n)).getD t.toNat 0 = if n < l.length + 2 then 0 else g := by
  obtain ⟨n, rfl⟩ : ∃ m, n = m + 1 := ⟨n - 1, by omega⟩
  rw [List.take_succ_cons, putAll]
  by_cases h : n ≤ l.length
  · rw [if_pos (by omega), List.take_append_of_le_length (by rw [addrL_len]; exact h), List.getD_eq_getElem?_getD, putAll_out]
    · rw [List.getElem?_set_self (by omega)]; rfl
    · intro p hp
      have := addrL_mem l (t + 1) p (List.mem_of_mem_take hp)
      omega
  · rw [if_neg (by omega), List.take_of_length_le (by simp [addrL_len]; omega), putAll_append]
    simp only [putAll]
    rw [List.getD_eq_getElem?_getD, List.getElem?_set_self (by rw [putAll_len]; simp; omega)]; rfl
theorem vals_full {t g : Int} {l b : List Int} (ht : 0 ≤ t) (htl : t + l.length + 1 ≤ b.length) :
    ((putAll b ((t, 0) :: (addrL (t + 1) l ++ [(t, g)]))).drop (t + 1).toNat).take l.length = l := by
  rw [putAll, putAll_append]
  simp only [putAll]
  have h1 : (((putAll (b.set t.toNat 0) (addrL (t + 1) l)).set t.toNat g).drop (t + 1).toNat) = (putAll (b.set t.toNat 0) (addrL (t + 1) l)).drop (t + 1).toNat := by
    rw [List.drop_set_of_lt (by omega)]
  rw [h1, putAll_addrL l (t + 1) _ (by omega) (by simp; omega)]
  exact drop_putL (by simp; omega)

/-- The value behind the first `n` byte writes of a write: the one from before, or, behind all of them, the new one. -/
theorem Cl.after {C : Cl} {b l : List Int} (h : C.Ok b.length) (hb : ∀ x ∈ b, 0 ≤ x ∧ x < 256) (hl : (l.length : Int) = C.size) (n : Nat) :
    C.readB (putAll b ((C.steps b l).take n)) = if n < l.length + 2 then C.readB b else (l, nextG (C.curB b).2, true) := by
  have hf0 := Cl.flagB_in (C := C) hb 0
  have hf1 := Cl.flagB_in (C := C) hb 1
  have hcu := curL_in hf0 hf1
  have e0 : C.copyAt 0 = C.addr := by unfold Cl.copyAt; omega
  have e1 : C.copyAt 1 = C.addr + (C.size + 1) := by unfold Cl.copyAt; omega
  obtain ⟨h1, h2, h3, h4⟩ := h
  have hok : C.Ok b.length := ⟨h1, h2, h3, h4⟩
  have hng : ∀ g, 0 ≤ g ∧ g ≤ 3 → fl (IntKind.u8.wrap (nextG g)) = nextG g := fun g hg => by
    obtain ⟨n1, n2, -⟩ := nextG_in hg
    rw [u8_small ⟨by omega, n2⟩]; unfold fl; rw [if_neg (by omega)]
  rcases Nat.eq_zero_or_pos n with rfl | hn
  · rw [if_pos (by omega)]; rfl
  unfold Cl.steps
  -- the copy that is written and the other one
  have key : ∀ i j : Int, (i = 0 ∧ j = 1 ∨ i = 1 ∧ j = 0) → C.at b = C.copyAt i →
      C.flagB (putAll b ((((C.copyAt i, 0) :: (addrL (C.copyAt i + 1) l ++ [(C.copyAt i, IntKind.u8.wrap (nextG (C.curB b).2))]))).take n)) i = (if n < l.length + 2 then 0 else nextG (C.curB b).2) ∧
      C.flagB (putAll b ((((C.copyAt i, 0) :: (addrL (C.copyAt i + 1) l ++ [(C.copyAt i, IntKind.u8.wrap (nextG (C.curB b).2))]))).take n)) j = C.flagB b j ∧
      C.vals (putAll b ((((C.copyAt i, 0) :: (addrL (C.copyAt i + 1) l ++ [(C.copyAt i, IntKind.u8.wrap (nextG (C.curB b).2))]))).take n)) j = C.vals b j ∧
      (¬ n < l.length + 2 → C.vals (putAll b ((((C.copyAt i, 0) :: (addrL (C.copyAt i + 1) l ++ [(C.copyAt i, IntKind.u8.wrap (nextG (C.curB b).2))]))).take n)) i = l) := by
    intro i j hij _
    have hi : 0 ≤ C.copyAt i ∧ C.copyAt i + C.size + 1 ≤ b.length := by rcases hij with ⟨rfl, _⟩ | ⟨rfl, _⟩ <;> simp only [e0, e1] <;> omega
    have ho := Cl.other hok hij ((((C.copyAt i, 0) :: (addrL (C.copyAt i + 1) l ++ [(C.copyAt i, IntKind.u8.wrap (nextG (C.curB b).2))]))).take n) (by
      intro p hp
      have hp := List.mem_of_mem_take hp
      simp only [List.mem_cons, List.mem_append, List.not_mem_nil, or_false] at hp
      rcases hp with rfl | hp | rfl
      · show C.copyAt i ≤ C.copyAt i ∧ C.copyAt i < _; omega
      · have := addrL_mem l _ p hp; omega
      · show C.copyAt i ≤ C.copyAt i ∧ C.copyAt i < _; omega)
    refine ⟨?_, ho.1, ho.2, fun hnn => ?_⟩
    · unfold Cl.flagB
      rw [flag_part hi.1 (by omega) hn]
      have hc2 : 0 ≤ (C.curB b).2 ∧ (C.curB b).2 ≤ 3 := by
        rcases hcu with ⟨_, e⟩ | ⟨_, e, _⟩ | ⟨_, e, _⟩ <;> (show 0 ≤ (curL _ _).2 ∧ (curL _ _).2 ≤ 3) <;> rw [e] <;> omega
      split
      · rfl
      · exact hng _ hc2
    · rw [List.take_of_length_le (by simp [addrL_len]; omega)]
      unfold Cl.vals
      rw [show C.size.toNat = l.length by omega]
      exact vals_full hi.1 (by omega)
  have hrd : ∀ b' : List Int, C.readB b' = if (C.curB b').1 < 0 then ([], 0, false) else (C.vals b' (C.curB b').1, (C.curB b').2, true) := fun _ => rfl
  have hcu' : ∀ b' : List Int, C.curB b' = curL (C.flagB b' 0) (C.flagB b' 1) := fun _ => rfl
  by_cases hxy : C.flagB b 0 = 0 ∧ C.flagB b 1 = 0
  · have hc : C.curB b = (-1, 0) := by rw [hcu', curL, if_pos hxy]
    have hat : C.at b = C.copyAt 0 := by unfold Cl.at; rw [hc]; rfl
    obtain ⟨k1, k2, k3, k4⟩ := key 0 1 (.inl ⟨rfl, rfl⟩) hat
    rw [hat]
    rw [hxy.2] at k2
    rw [hrd, hcu', k1, k2]
    by_cases hlt : n < l.length + 2
    · rw [if_pos hlt, if_pos hlt, hrd, hc]; rfl
    · rw [if_neg hlt, if_neg hlt, hc]
      show (if (curL 1 0).1 < 0 then _ else (C.vals _ (curL 1 0).1, (curL 1 0).2, true)) = _
      have := k4 hlt
      rw [hc] at this
      show (C.vals _ 0, _, true) = _
      rw [this]; rfl
  · by_cases h5 : C.flagB b 0 = 0 ∨ (C.flagB b 1 ≠ 0 ∧ C.flagB b 1 = nextG (C.flagB b 0))
    · have hc : C.curB b = (1, C.flagB b 1) := by rw [hcu', curL, if_neg hxy, if_pos h5]
      have hy : 1 ≤ C.flagB b 1 := by omega
      have hat : C.at b = C.copyAt 0 := by unfold Cl.at; rw [hc]; rfl
      obtain ⟨k1, k2, k3, k4⟩ := key 0 1 (.inl ⟨rfl, rfl⟩) hat
      rw [hat, hrd, hcu', k1, k2]
      by_cases hlt : n < l.length + 2
      · have e : curL 0 (C.flagB b 1) = (1, C.flagB b 1) := by rw [curL, if_neg (by omega), if_pos (.inl rfl)]
        rw [if_pos hlt, if_pos hlt, e, hrd, hc]
        rw [hc] at k3
        show (C.vals _ 1, _, true) = (C.vals b 1, _, true)
        rw [k3]
      · obtain ⟨n1, n2, n3⟩ := nextG_in hf1
        obtain ⟨m1, m2, m3⟩ := nextG_in (g := nextG (C.flagB b 1)) ⟨by omega, n2⟩
        have hne : ¬ (C.flagB b 1 = nextG (nextG (C.flagB b 1))) := by
          rw [m3, n3]; repeat' split
          all_goals omega
        have e : curL (nextG (C.flagB b 1)) (C.flagB b 1) = (0, nextG (C.flagB b 1)) := by rw [curL, if_neg (by omega), if_neg (by rintro (h | ⟨_, h⟩); omega; exact hne h)]
        rw [if_neg hlt, if_neg hlt, hc]
        have := k4 hlt
        rw [hc] at this
        show (if (curL _ _).1 < 0 then _ else (C.vals _ (curL (nextG (C.flagB b 1)) (C.flagB b 1)).1, (curL (nextG (C.flagB b 1)) (C.flagB b 1)).2, true)) = _
        rw [e]
        show (C.vals _ 0, _, true) = _
        rw [this]
    · have hc : C.curB b = (0, C.flagB b 0) := by rw [hcu', curL, if_neg hxy, if_neg h5]
      have hx : 1 ≤ C.flagB b 0 := by omega
      have hat : C.at b = C.copyAt 1 := by unfold Cl.at; rw [hc]; rfl
      obtain ⟨k1, k2, k3, k4⟩ := key 1 0 (.inr ⟨rfl, rfl⟩) hat
      rw [hat, hrd, hcu', k1, k2]
      by_cases hlt : n < l.length + 2
      · have e : curL (C.flagB b 0) 0 = (0, C.flagB b 0) := by rw [curL, if_neg (by omega), if_neg (by omega)]
        rw [if_pos hlt, if_pos hlt, e, hrd, hc]
        rw [hc] at k3
        show (C.vals _ 0, _, true) = (C.vals b 0, _, true)
        rw [k3]
      · obtain ⟨n1, n2, n3⟩ := nextG_in hf0
        have e : curL (C.flagB b 0) (nextG (C.flagB b 0)) = (1, nextG (C.flagB b 0)) := by rw [curL, if_neg (by omega), if_pos (.inr ⟨by omega, rfl⟩)]
        rw [if_neg hlt, if_neg hlt, hc]
        have := k4 hlt
        rw [hc] at this
        show (if (curL _ _).1 < 0 then _ else (C.vals _ (curL (C.flagB b 0) (nextG (C.flagB b 0))).1, (curL (C.flagB b 0) (nextG (C.flagB b 0))).2, true)) = _
        rw [e]
        show (C.vals _ 1, _, true) = _
        rw [this]

theorem Cl.steps_len {C : Cl} {b l : List Int} : (C.steps b l).length = l.length + 2 := by simp [Cl.steps, addrL_len]
theorem Cl.steps_in {C : Cl} {b l : List Int} (h : C.Ok b.length) (hl : (l.length : Int) = C.size) : ∀ p ∈ C.steps b l, 0 ≤ p.1 ∧ p.1 < b.length := by
  obtain ⟨h1, h2, h3, h4⟩ := h
  have ha : 0 ≤ C.at b ∧ C.at b + C.size + 1 ≤ b.length := by
    unfold Cl.at Cl.copyAt; split <;> omega
  intro p hp
  simp only [Cl.steps, List.mem_cons, List.mem_append, List.not_mem_nil, or_false] at hp
  rcases hp with rfl | hp | rfl
  · show 0 ≤ C.at b ∧ C.at b < _; omega
  · have := addrL_mem l _ p hp; omega
  · show 0 ≤ C.at b ∧ C.at b < _; omega

theorem Cl.write_puts {C : Cl} {M : Mem} {l : List Int} (h : C.Ok M.b.length) (ho : M.off = false) (hl : (l.length : Int) = C.size) :
    C.write M l = (if (M.puts (C.steps M.b l)).1 = true then 0 else 9, (M.puts (C.steps M.b l)).2) := by
  have hcu := Cl.cur_on h ho
  have hin := Cl.steps_in (b := M.b) h hl
  have ha : 0 ≤ C.at M.b ∧ C.at M.b + C.size + 1 ≤ M.b.length := by
    obtain ⟨h1, h2, h3, h4⟩ := h
    unfold Cl.at Cl.copyAt; split <;> omega
  have hsz := h.size
  have e : C.write M l = (if ((M.write (C.at M.b) 0).1 = false) then (9, (M.write (C.at M.b) 0).2)
      else if ((M.write (C.at M.b) 0).2.writeBytes (C.at M.b + 1) l).1 = false then (9, ((M.write (C.at M.b) 0).2.writeBytes (C.at M.b + 1) l).2)
      else if (((M.write (C.at M.b) 0).2.writeBytes (C.at M.b + 1) l).2.write (C.at M.b) (IntKind.u8.wrap (nextG (C.curB M.b).2))).1 = false then (9, (((M.write (C.at M.b) 0).2.writeBytes (C.at M.b + 1) l).2.write (C.at M.b) (IntKind.u8.wrap (nextG (C.curB M.b).2))).2)
      else (0, (((M.write (C.at M.b) 0).2.writeBytes (C.at M.b + 1) l).2.write (C.at M.b) (IntKind.u8.wrap (nextG (C.curB M.b).2))).2)) := by
    unfold Cl.write Cl.at
    simp only [hcu]
    rw [if_neg (by omega)]
  rw [e]
  clear e
  unfold Cl.steps
  generalize C.at M.b = a at ha ⊢
  generalize IntKind.u8.wrap (nextG (C.curB M.b).2) = g
  simp only [Mem.puts]
  by_cases b1 : (M.write a 0).1 = true
  · have hl1 := Mem.write_len M a 0
    have ho1 := Mem.write_on b1
    rw [if_neg (by rw [b1]; simp), if_pos b1]
    generalize (M.write a 0).2 = M1 at hl1 ho1
    have hv : M1.valid (a + 1) l.length = true := Mem.valid_iff.2 ⟨by omega, by omega, by omega⟩
    have hwb : M1.writeBytes (a + 1) l = (if (M1.writeN (a + 1) l).1 = true then (!(M1.writeN (a + 1) l).2.off, (M1.writeN (a + 1) l).2) else M1.writeN (a + 1) l) := by simp [Mem.writeBytes, hv]
    rw [Mem.puts_append, ← Mem.writeN_puts]
    by_cases b2 : (M1.writeN (a + 1) l).1 = true
    · have ho2 := Mem.writeN_on l (a + 1) ho1 b2
      rw [hwb, if_pos b2, if_pos b2, ho2]
      generalize (M1.writeN (a + 1) l).2 = M2
      simp only [Bool.not_false, Bool.true_eq_false, if_false, Mem.puts]
      by_cases b3 : (M2.write a g).1 = true
      · simp only [b3]; simp
      · have b3' : (M2.write a g).1 = false := by simpa using b3
        simp only [b3']; simp
    · have b2' : (M1.writeN (a + 1) l).1 = false := by simpa using b2
      rw [hwb, if_neg b2, if_neg b2, b2']; simp
  · have b1' : (M.write a 0).1 = false := by simpa using b1
    rw [if_pos b1', if_neg b1]; simp

/-- A write of a cell with a power failure after `fail` byte writes (never, if negative). -/
theorem Cl.write_fail {C : Cl} {b l : List Int} {wr fail : Int} (h : C.Ok b.length) (hl : (l.length : Int) = C.size) (hf : -9223372036854775808 ≤ fail ∧ fail ≤ 9223372036854775807) (h0 : 0 ≤ wr) (h1 : wr + l.length + 2 ≤ 1000000000000) :
    ∃ left, C.write ⟨b, false, decide (0 ≤ fail), fail, .off, wr⟩ l =
      if 0 ≤ fail ∧ fail < l.length + 2 then (9, ⟨putAll b ((C.steps b l).take fail.toNat), true, true, left, .off, wr + fail⟩)
      else (0, ⟨putAll b (C.steps b l), false, decide (0 ≤ fail), left, .off, wr + (l.length + 2)⟩) := by
  have hin := Cl.steps_in (b := b) h hl
  have hsl := Cl.steps_len (C := C) (b := b) (l := l)
  by_cases hc : 0 ≤ fail ∧ fail < l.length + 2
  · refine ⟨0, ?_⟩
    rw [if_pos hc, decide_eq_true hc.1, Cl.write_puts h rfl hl]
    have := Mem.puts_stop (C.steps b l) b fail.toNat wr hin h0 (by rw [hsl]; omega) (by rw [hsl]; omega) (by omega)
    rw [Int.toNat_of_nonneg hc.1] at this
    rw [this]; rfl
  · refine ⟨if decide (0 ≤ fail) = true then fail - (C.steps b l).length else fail, ?_⟩
    rw [if_neg hc, Cl.write_puts h rfl hl]
    have := Mem.puts_go (decide (0 ≤ fail)) (C.steps b l) b fail wr hin h0 (by rw [hsl]; omega) (by intro hd; simp at hd; rw [hsl]; omega)
    rw [this, hsl]
    simp
end Go.Proofs.Ythpdpipcfhodoaa
