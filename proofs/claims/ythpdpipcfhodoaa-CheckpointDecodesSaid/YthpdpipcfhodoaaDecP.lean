/- Chapter 36: plain laws of a checkpoint's bytes: what is read out of them. No program in sight. No condition. -/
import Derived.Test.YthpdpipcfhodoaaCkp4
import Derived.Test.YthpdpipcfhodoaaSto36d
namespace Go.Proofs.Ythpdpipcfhodoaa
open Go.RowKit
set_option linter.unusedSimpArgs false
set_option maxHeartbeats 4000000
set_option linter.unusedVariables false

/-- The number of bytes, the low one first. -/
def getI : List Int → Int
  | [] => 0
  | x :: xs => x + 256 * getI xs
theorem getI_snoc (l : List Int) (x : Int) : getI (l ++ [x]) = getI l + 256 ^ l.length * x := by
  induction l with
  | nil => simp [getI]
  | cons y l ih => rw [List.cons_append, getI, ih, getI, List.length_cons, Int.pow_succ, Int.mul_add, Int.mul_comm (256 ^ l.length) 256, Int.mul_assoc]; omega
theorem getI_in (l : List Int) (h : ∀ x ∈ l, 0 ≤ x ∧ x < 256) : 0 ≤ getI l ∧ getI l < 256 ^ l.length := by
  induction l with
  | nil => simp [getI]
  | cons y l ih =>
    have h1 := h y (by simp)
    have h2 := ih (fun x hx => h x (by simp [hx]))
    rw [getI, List.length_cons, Int.pow_succ]; omega
theorem getI_1 (n : Int) (h : 0 ≤ n ∧ n < 256) : getI (numI n 1) = n := by
  simp only [numI, List.nil_append, getI, IntKind.wrap_u8]; omega
theorem getI_4 (n : Int) (h : 0 ≤ n ∧ n < 4294967296) : getI (numI n 4) = n := by
  simp only [numI, List.nil_append, List.cons_append, getI, IntKind.wrap_u8, Int.reducePow]; omega
theorem getI_6 (n : Int) (h : 0 ≤ n ∧ n < 281474976710656) : getI (numI n 6) = n := by
  simp only [numI, List.nil_append, List.cons_append, getI, IntKind.wrap_u8, Int.reducePow]; omega
theorem getI_w (x : Int) (h : -32768 ≤ x ∧ x ≤ 32767) : IntKind.i16.wrap (getI (wordL x)) = x := by
  have := wordL_sum x h
  have e : getI (wordL x) = IntKind.u16.wrap x := by rw [← this]; simp [wordL, getI]
  rw [e, i16_u16 x h]
/-- A piece of a list. -/
def cut (l : List Int) (o n : Nat) : List Int := (l.drop o).take n
section
variable {A B : List Int} {o n : Nat}
theorem cut_left (h : o + n ≤ A.length) : cut (A ++ B) o n = cut A o n := by
  unfold cut
  rw [List.drop_append_of_le_length (by omega), List.take_append_of_le_length (by rw [List.length_drop]; omega)]
theorem cut_right {k : Nat} (h : k = A.length) : cut (A ++ B) (k + o) n = cut B o n := by
  subst h
  unfold cut
  rw [List.drop_append, List.drop_eq_nil_of_le (by omega), List.nil_append]
  congr 2; omega
theorem cut_right0 {k : Nat} (h : k = A.length) : cut (A ++ B) k n = cut B 0 n := cut_right (o := 0) h
theorem cut_all {X : List Int} (h : X.length = n) : cut X 0 n = X := by
  unfold cut
  rw [List.drop_zero, List.take_of_length_le (by omega)]
theorem fl_drop {f : Nat → List Int} {k : Nat} (hf : ∀ i, (f i).length = k) : ∀ (xs : List Nat) (i : Nat), (xs.flatMap f).drop (i * k) = (xs.drop i).flatMap f := by
  intro xs
  induction xs with
  | nil => intro i; simp
  | cons y xs ih =>
    intro i
    cases i with
    | zero => simp
    | succ i =>
      rw [List.flatMap_cons, List.drop_succ_cons, Nat.add_mul, List.drop_append, hf, ← ih i, List.drop_eq_nil_of_le (by rw [hf]; omega), List.nil_append]
      congr 1; omega
theorem cut_flat {f : Nat → List Int} {m k : Nat} (hf : ∀ i, (f i).length = k) {i : Nat} (hi : i < m) : cut ((List.range m).flatMap f) (k * i) k = f i := by
  unfold cut
  rw [Nat.mul_comm, fl_drop hf]
  have e : (List.range m).drop i = i :: (List.range m).drop (i + 1) := by
    rw [List.drop_eq_getElem_cons (by simpa using hi)]; simp
  rw [e, List.flatMap_cons, List.take_append_of_le_length (by rw [hf]; omega), List.take_of_length_le (by rw [hf]; omega)]
end
def cutI (b : List Int) (o n : Nat) : Int := getI (cut b o n)
def wordI (b : List Int) (o : Nat) : Int := IntKind.i16.wrap (getI (cut b o 2))
def valsI (b : List Int) (k : Nat) : List Int := (List.range k).map fun i => wordI b (9 + 2 * i)
def remI (b : List Int) (k : Nat) : List Int := (List.range k).map fun i => cutI b (42 + 8 * i) 4
def addI (b : List Int) (k : Nat) : List Int := (List.range k).map fun i => cutI b (42 + 8 * i + 4) 4
def relI (b : List Int) (k : Nat) : List Int := (List.range k).map fun i => cutI b (123 + 6 * i) 6
/-- The checkpoint of bytes, its lists of these lengths. -/
def parse (b : List Int) (vs rs ad ls : List Int) : Cp :=
  ⟨cutI b 0 4, cutI b 4 1 - 1, cutI b 5 1, wordI b 6, vs, rs, ad, cutI b 106 4, cutI b 110 4, cutI b 114 4, cutI b 118 4, ls, cutI b 171 6, cutI b 177 6, cutI b 183 4⟩
def pm (b : List Int) : Cp := parse b ((valsI b 16).take (cutI b 8 1).toNat) ((remI b 8).take (cutI b 41 1).toNat) ((addI b 8).take (cutI b 41 1).toNat) ((relI b 8).take (cutI b 122 1).toNat)
def pr (b : List Int) : Cp := parse b (valsI b (cutI b 8 1).toNat) (remI b (cutI b 41 1).toNat) (addI b (cutI b 41 1).toNat) (relI b (cutI b 122 1).toNat)
def decM (b : List Int) : Cp × Int := if b.length = 187 ∧ okCp (pm b) = true ∧ encL (pm b) = b then (pm b, 0) else (cp0, 2)
def decR (b : List Int) : Cp × Int :=
  if b.length ≠ 187 ∨ 16 < cutI b 8 1 ∨ 8 < cutI b 41 1 ∨ 8 < cutI b 122 1 then (cp0, 2) else if okCp (pr b) = true ∧ encL (pr b) = b then (pr b, 0) else (cp0, 2)
theorem take_map_range {f : Nat → Int} {k n : Nat} (h : k ≤ n) : ((List.range n).map f).take k = (List.range k).map f := by
  rw [← List.map_take, List.take_range, Nat.min_eq_left h]
section
variable (c : Cp)
theorem ecA {o n : Nat} (h : o + n ≤ 9) : cut (encL c) o n = cut (encA c) o n := by
  unfold encL encL3 encL2 encL1
  repeat rw [cut_left (by simp only [List.length_append, numI_len, encA_len, encB_len, encC_len, encE_len, encD_len c 4 (by omega)]; omega)]
theorem ecB {o n : Nat} (h : o + n ≤ 32) : cut (encL c) (9 + o) n = cut (encB c 16) o n := by
  unfold encL encL3 encL2 encL1
  repeat rw [cut_left (by simp only [List.length_append, numI_len, encA_len, encB_len, encC_len, encE_len, encD_len c 4 (by omega)]; omega)]
  exact cut_right (encA_len c).symm
theorem ecBn : cut (encL c) 41 1 = numI c.add.length 1 := by
  unfold encL encL3 encL2 encL1
  repeat rw [cut_left (by simp only [List.length_append, numI_len, encA_len, encB_len, encC_len, encE_len, encD_len c 4 (by omega)]; omega)]
  rw [cut_right0 (by simp only [List.length_append, encA_len, encB_len]), cut_all (numI_len _ _)]
theorem ecC {o n : Nat} (h : o + n ≤ 64) : cut (encL c) (42 + o) n = cut (encC c 8) o n := by
  unfold encL encL3 encL2
  repeat rw [cut_left (by simp only [List.length_append, numI_len, encL1_len, encC_len, encE_len, encD_len c 4 (by omega)]; omega)]
  exact cut_right (encL1_len c).symm
theorem ecD {o n : Nat} (h : o + n ≤ 16) : cut (encL c) (106 + o) n = cut (encD c 4) o n := by
  unfold encL encL3
  repeat rw [cut_left (by simp only [List.length_append, numI_len, encL2_len, encE_len, encD_len c 4 (by omega)]; omega)]
  exact cut_right (encL2_len c).symm
theorem ecDn : cut (encL c) 122 1 = numI c.rels.length 1 := by
  unfold encL encL3
  repeat rw [cut_left (by simp only [List.length_append, numI_len, encL2_len, encE_len, encD_len c 4 (by omega)]; omega)]
  rw [cut_right0 (by simp only [List.length_append, encL2_len, encD_len c 4 (by omega)]), cut_all (numI_len _ _)]
theorem ecE {o n : Nat} (h : o + n ≤ 48) : cut (encL c) (123 + o) n = cut (encE c 8) o n := by
  unfold encL
  repeat rw [cut_left (by simp only [List.length_append, numI_len, encL3_len, encE_len]; omega)]
  exact cut_right (encL3_len c).symm
theorem ecF : cut (encL c) 171 6 = numI c.lo 6 := by
  unfold encL
  rw [cut_left (by simp only [List.length_append, numI_len, encL3_len, encE_len]; omega), cut_left (by simp only [List.length_append, numI_len, encL3_len, encE_len]; omega), cut_right0 (by simp only [List.length_append, encL3_len, encE_len]), cut_all (numI_len _ _)]
theorem ecG : cut (encL c) 177 6 = numI c.hi 6 := by
  unfold encL
  rw [cut_left (by simp only [List.length_append, numI_len, encL3_len, encE_len]; omega), cut_right0 (by simp only [List.length_append, encL3_len, encE_len, numI_len]), cut_all (numI_len _ _)]
theorem ecH : cut (encL c) 183 4 = numI c.ep 4 := by
  unfold encL
  rw [cut_right0 (by simp only [List.length_append, encL3_len, encE_len, numI_len]), cut_all (numI_len _ _)]
theorem ecA1 : cut (encL c) 0 4 = numI c.ver 4 := by
  rw [ecA c (by omega)]; unfold encA
  repeat rw [cut_left (by simp only [List.length_append, numI_len, wordL_len]; omega)]
  rw [cut_all (numI_len _ _)]
theorem ecA2 : cut (encL c) 4 1 = numI (c.task + 1) 1 := by
  rw [ecA c (by omega)]; unfold encA
  repeat rw [cut_left (by simp only [List.length_append, numI_len, wordL_len]; omega)]
  rw [cut_right0 (by simp only [List.length_append, numI_len]), cut_all (numI_len _ _)]
theorem ecA3 : cut (encL c) 5 1 = numI c.reg 1 := by
  rw [ecA c (by omega)]; unfold encA
  repeat rw [cut_left (by simp only [List.length_append, numI_len, wordL_len]; omega)]
  rw [cut_right0 (by simp only [List.length_append, numI_len]), cut_all (numI_len _ _)]
theorem ecA4 : cut (encL c) 6 2 = wordL c.msg := by
  rw [ecA c (by omega)]; unfold encA
  repeat rw [cut_left (by simp only [List.length_append, numI_len, wordL_len]; omega)]
  rw [cut_right0 (by simp only [List.length_append, numI_len]), cut_all (wordL_len _)]
theorem ecA5 : cut (encL c) 8 1 = numI c.vals.length 1 := by
  rw [ecA c (by omega)]; unfold encA
  rw [cut_right0 (by simp only [List.length_append, numI_len, wordL_len]), cut_all (numI_len _ _)]
theorem ecBi {i : Nat} (h : i < 16) : cut (encL c) (9 + 2 * i) 2 = wordL (c.vals.getD i 0) := by
  rw [ecB c (by omega)]; exact cut_flat (k := 2) (fun _ => rfl) h
theorem ecCr {i : Nat} (h : i < 8) : cut (encL c) (42 + 8 * i) 4 = numI (c.rem.getD i 0) 4 := by
  have := cut_flat (f := fun i => numI (c.rem.getD i 0) 4 ++ numI (c.add.getD i 0) 4) (k := 8) (m := 8) (fun _ => by rw [List.length_append, numI_len, numI_len]) h
  rw [ecC c (by omega)]
  have e : cut (encC c 8) (8 * i) 4 = cut (cut (encC c 8) (8 * i) 8) 0 4 := by unfold cut; rw [List.drop_zero, List.take_take]; rfl
  rw [e]; unfold encC; rw [this, cut_left (by rw [numI_len]; omega), cut_all (numI_len _ _)]
theorem ecCa {i : Nat} (h : i < 8) : cut (encL c) (42 + 8 * i + 4) 4 = numI (c.add.getD i 0) 4 := by
  have := cut_flat (f := fun i => numI (c.rem.getD i 0) 4 ++ numI (c.add.getD i 0) 4) (k := 8) (m := 8) (fun _ => by rw [List.length_append, numI_len, numI_len]) h
  rw [Nat.add_assoc, ecC c (by omega)]
  have e : cut (encC c 8) (8 * i + 4) 4 = cut (cut (encC c 8) (8 * i) 8) 4 4 := by unfold cut; rw [List.drop_take, List.drop_drop, List.take_take]; rfl
  rw [e]; unfold encC; rw [this, cut_right0 (numI_len _ _).symm, cut_all (numI_len _ _)]
theorem ecEi {i : Nat} (h : i < 8) : cut (encL c) (123 + 6 * i) 6 = numI (c.rels.getD i 0) 6 := by
  rw [ecE c (by omega)]; exact cut_flat (k := 6) (fun _ => numI_len _ _) h
theorem encD_eq : encD c 4 = numI c.em 4 ++ (numI c.ac 4 ++ (numI c.ou 4 ++ numI c.dn 4)) := by simp [encD, cnts]
theorem ecD1 : cut (encL c) 106 4 = numI c.em 4 := by
  have := ecD c (o := 0) (n := 4) (by omega)
  rw [this, encD_eq, cut_left (by rw [numI_len]; omega), cut_all (numI_len _ _)]
theorem ecD2 : cut (encL c) 110 4 = numI c.ac 4 := by
  have := ecD c (o := 4) (n := 4) (by omega)
  rw [this, encD_eq, cut_right0 (numI_len _ _).symm, cut_left (by rw [numI_len]; omega), cut_all (numI_len _ _)]
theorem ecD3 : cut (encL c) 114 4 = numI c.ou 4 := by
  have := ecD c (o := 8) (n := 4) (by omega)
  rw [this, encD_eq, show 8 = 4 + 4 from rfl, cut_right (numI_len _ _).symm, cut_right0 (numI_len _ _).symm, cut_left (by rw [numI_len]; omega), cut_all (numI_len _ _)]
theorem ecD4 : cut (encL c) 118 4 = numI c.dn 4 := by
  have := ecD c (o := 12) (n := 4) (by omega)
  rw [this, encD_eq, show 12 = 4 + (4 + 4) from rfl, cut_right (numI_len _ _).symm, cut_right (numI_len _ _).symm, cut_right0 (numI_len _ _).symm, cut_all (numI_len _ _)]
end
theorem range_list {f : Nat → Int} {l : List Int} {n : Nat} (hl : l.length ≤ n) (h : ∀ i, i < l.length → f i = l.getD i 0) : ((List.range n).map f).take l.length = l := by
  rw [take_map_range hl]
  apply List.ext_getElem
  · simp
  intro i h1 h2
  rw [List.getElem_map, List.getElem_range, h i h2, List.getD_eq_getElem?_getD, List.getElem?_eq_getElem h2]; rfl
/-- What is read out of a checkpoint's bytes is the checkpoint. -/
theorem pm_enc (c : Cp) (hok : okCp c = true) (hin : CpIn c) : pm (encL c) = c := by
  unfold okCp at hok
  simp only [Bool.and_eq_true] at hok
  obtain ⟨h1, h2, h3, h4, h5, h6⟩ := hok
  have h1 := of_decide_eq_true h1
  have h3 := of_decide_eq_true h3
  have h4 := of_decide_eq_true h4
  have h5 := of_decide_eq_true h5
  have hq : ∀ i, i < c.add.length → (0 ≤ c.rem.getD i 0 ∧ c.rem.getD i 0 < 4294967296) ∧ (0 ≤ c.add.getD i 0 ∧ c.add.getD i 0 < 4294967296) := by
    intro i hi
    have hz : (c.rem.zip c.add)[i]? = some (c.rem.getD i 0, c.add.getD i 0) := by
      rw [List.getElem?_eq_getElem (by rw [List.length_zip]; omega), List.getElem_zip, List.getD_eq_getElem?_getD, List.getD_eq_getElem?_getD, List.getElem?_eq_getElem hi, List.getElem?_eq_getElem (show i < c.rem.length by omega)]; rfl
    have := of_decide_eq_true (List.all_eq_true.1 h2 _ (List.mem_of_getElem? hz))
    dsimp only at this
    omega
  have hr : ∀ i, i < c.rels.length → 0 ≤ c.rels.getD i 0 ∧ c.rels.getD i 0 < 281474976710656 := by
    intro i hi
    have := of_decide_eq_true (List.all_eq_true.1 h6 (c.rels.getD i 0) (by rw [List.getD_eq_getElem?_getD, List.getElem?_eq_getElem hi]; exact List.getElem_mem hi))
    omega
  have n1 : (cutI (encL c) 8 1).toNat = c.vals.length := by unfold cutI; rw [ecA5, getI_1 _ (by omega)]; rfl
  have n2 : (cutI (encL c) 41 1).toNat = c.add.length := by unfold cutI; rw [ecBn, getI_1 _ (by omega)]; rfl
  have n3 : (cutI (encL c) 122 1).toNat = c.rels.length := by unfold cutI; rw [ecDn, getI_1 _ (by omega)]; rfl
  have l1 : (valsI (encL c) 16).take c.vals.length = c.vals := range_list (by omega) (fun i hi => by
    unfold wordI; rw [ecBi c (by omega)]
    exact getI_w _ (hin.vals _ (by rw [List.getD_eq_getElem?_getD, List.getElem?_eq_getElem hi]; exact List.getElem_mem hi)))
  have l2 : (remI (encL c) 8).take c.add.length = c.rem := by
    have := range_list (f := fun i => cutI (encL c) (42 + 8 * i) 4) (l := c.rem) (n := 8) (by omega) (fun i hi => by unfold cutI; rw [ecCr c (by omega)]; exact getI_4 _ (hq i (by omega)).1)
    rw [show c.add.length = c.rem.length by omega]; exact this
  have l3 : (addI (encL c) 8).take c.add.length = c.add := range_list (by omega) (fun i hi => by unfold cutI; rw [ecCa c (by omega)]; exact getI_4 _ (hq i (by omega)).2)
  have l4 : (relI (encL c) 8).take c.rels.length = c.rels := range_list (by omega) (fun i hi => by unfold cutI; rw [ecEi c (by omega)]; exact getI_6 _ (hr i hi))
  unfold pm
  rw [n1, n2, n3, l1, l2, l3, l4]
  unfold parse cutI wordI
  rw [ecA1, ecA2, ecA3, ecA4, ecD1, ecD2, ecD3, ecD4, ecF, ecG, ecH, getI_4 c.ver (by omega), getI_1 (c.task + 1) (by omega), getI_1 c.reg (by omega), getI_w _ hin.msg, getI_4 c.em (by omega), getI_4 c.ac (by omega), getI_4 c.ou (by omega), getI_4 c.dn (by omega), getI_6 c.lo (by omega), getI_6 c.hi (by omega), getI_4 c.ep (by omega)]
  rw [Int.add_sub_cancel]
theorem dec_enc (c : Cp) (hok : okCp c = true) (hin : CpIn c) : decM (encL c) = (c, 0) := by
  unfold decM
  rw [pm_enc c hok hin, if_pos ⟨encL_len c, hok, rfl⟩]
theorem cutI_byte {b : List Int} (hb : ∀ x ∈ b, 0 ≤ x ∧ x < 256) (o : Nat) : 0 ≤ cutI b o 1 ∧ cutI b o 1 < 256 := by
  have h := getI_in (cut b o 1) (fun x hx => hb x (List.mem_of_mem_drop (List.mem_of_mem_take hx)))
  refine ⟨h.1, Int.lt_of_lt_of_le h.2 ?_⟩
  have hl : (cut b o 1).length ≤ 1 := by unfold cut; rw [List.length_take]; omega
  rcases (by omega : (cut b o 1).length = 0 ∨ (cut b o 1).length = 1) with e | e <;> rw [e] <;> decide
/-- Both ways to read bytes agree. -/
theorem dec_eq {b : List Int} (hb : ∀ x ∈ b, 0 ≤ x ∧ x < 256) : decR b = decM b := by
  have h8 := cutI_byte hb 8
  have h41 := cutI_byte hb 41
  have h122 := cutI_byte hb 122
  unfold decR decM
  by_cases hl : b.length = 187
  · by_cases hc : 16 < cutI b 8 1 ∨ 8 < cutI b 41 1 ∨ 8 < cutI b 122 1
    · rw [if_pos (.inr hc), if_neg]
      rintro ⟨-, -, he⟩
      have v1 := congrArg (fun l => cutI l 8 1) he
      have v2 := congrArg (fun l => cutI l 41 1) he
      have v3 := congrArg (fun l => cutI l 122 1) he
      simp only [cutI] at v1 v2 v3
      have m1 : (pm b).vals.length = min (cutI b 8 1).toNat 16 := by show ((valsI b 16).take _).length = _; rw [List.length_take]; simp [valsI]
      have m2 : (pm b).add.length = min (cutI b 41 1).toNat 8 := by show ((addI b 8).take _).length = _; rw [List.length_take]; simp [addI]
      have m3 : (pm b).rels.length = min (cutI b 122 1).toNat 8 := by show ((relI b 8).take _).length = _; rw [List.length_take]; simp [relI]
      rw [ecA5, getI_1 _ (by omega)] at v1
      rw [ecBn, getI_1 _ (by omega)] at v2
      rw [ecDn, getI_1 _ (by omega)] at v3
      unfold cutI at hc m1 m2 m3 h8 h41 h122
      omega
    · have e : pr b = pm b := by
        unfold pr pm valsI remI addI relI
        rw [take_map_range (by omega), take_map_range (by omega), take_map_range (by omega), take_map_range (by omega)]
      rw [if_neg (by rintro (h | h); exact h hl; exact hc h), e]
      by_cases h : okCp (pm b) = true ∧ encL (pm b) = b
      · rw [if_pos h, if_pos ⟨hl, h⟩]
      · rw [if_neg h, if_neg (fun hh => h hh.2)]
  · rw [if_pos (.inl hl), if_neg (fun h => hl h.1)]
end Go.Proofs.Ythpdpipcfhodoaa
