/- Chapter 36: plain facts of the first example: an empty memory, one checkpoint. No condition. -/
import Derived.Test.YthpdpipcfhodoaaStoA
import Derived.Test.YthpdpipcfhodoaaCellP
namespace Go.Proofs.Ythpdpipcfhodoaa
open Go.RowKit
set_option linter.unusedSimpArgs false
set_option maxHeartbeats 4000000
set_option linter.unusedVariables false

abbrev zs (n : Nat) : List Int := List.replicate n 0
theorem zs_get (n k : Nat) : (zs n).getD k 0 = 0 := by
  rw [List.getD_eq_getElem?_getD, List.getElem?_replicate]; split <;> rfl
abbrev aw0 (n : Nat) : Mem := ⟨zs n, false, false, 0, .off, 0⟩
section
variable {n : Nat}
theorem awC_ok (h : 1280 ≤ n) : awC.Ok n := ⟨by decide, by decide, by decide, by show (0 : Int) + 2 * (187 + 1) ≤ n; omega⟩
theorem aw_cur (h : 1280 ≤ n) : awC.current (aw0 n) = (-1, 0) := by
  rw [Cl.cur_on (by show awC.Ok (zs n).length; rw [List.length_replicate]; exact awC_ok h) rfl]
  unfold Cl.curB Cl.flagB
  show curL (fl ((zs n).getD _ 0)) (fl ((zs n).getD _ 0)) = _
  rw [zs_get, zs_get]; rfl
theorem aw_no (h : 1280 ≤ n) : (awC.read (aw0 n)).2.2 = false := by
  unfold Cl.read
  rw [aw_cur h]; rfl
theorem aw_next (h : 1280 ≤ n) : nextG (awC.current (aw0 n)).2 = 1 := by rw [aw_cur h]; rfl
theorem aw_log (h : 1280 ≤ n) : okLog n 768 96 = true := by unfold okLog; exact decide_eq_true (by omega)
/-- The memory behind the log's clearing. -/
theorem aw_clear (h : 1280 ≤ n) : (awL n).clear (aw0 n) 1 = (0, ⟨(zs n).set 768 0, false, false, 0, .off, 1⟩) := by
  unfold Lg.clear
  rw [if_neg (by decide)]
  have hv : (aw0 n).valid 768 1 = true := Mem.valid_iff.2 ⟨by decide, by decide, by show (768 : Int) + 1 ≤ (zs n).length; rw [List.length_replicate]; omega⟩
  have e : (aw0 n).write ((awL n).addr + 1 - 1) 0 = (true, ⟨(zs n).set 768 0, false, false, 0, .off, 1⟩) := by
    show (aw0 n).write 768 0 = _
    unfold Mem.write
    rw [if_neg (by rw [hv]; simp), if_neg (by simp)]
    rfl
  rw [e]; rfl
theorem aw_zset (n k : Nat) : (zs n).set k 0 = zs n := by
  apply List.ext_getElem?
  intro i
  rw [List.getElem?_set, List.getElem?_replicate, List.length_replicate]
  split
  · subst_vars; rfl
  · rfl
/-- The bytes behind a commit. -/
def awB (n : Nat) (c : Cp) : List Int := putAll (zs n) (awC.steps (zs n) (encL c))
theorem aw_commit (h : 1280 ≤ n) (c : Cp) (hc : okCp c = true) : stCommit awC (awL n) (aw0 n) c = (0, ⟨awB n c, false, false, 0, .off, 190⟩) := by
  unfold stCommit
  rw [if_neg (by rw [hc]; simp), aw_next h, aw_clear h, aw_zset, if_neg (by simp)]
  have hok : awC.Ok (zs n).length := by rw [List.length_replicate]; exact awC_ok h
  have hl : ((encL c).length : Int) = awC.size := by rw [encL_len]; rfl
  rw [Cl.write_puts (M := ⟨zs n, false, false, 0, .off, 1⟩) hok rfl hl]
  have hg := Mem.puts_go false (awC.steps (zs n) (encL c)) (zs n) 0 1 (Cl.steps_in hok hl) (by decide) (by rw [Cl.steps_len, encL_len]; decide) (by simp)
  rw [hg, Cl.steps_len, encL_len]; rfl
theorem awB_len (n : Nat) (c : Cp) : (awB n c).length = n := by unfold awB; rw [putAll_len, List.length_replicate]
theorem aw_steps (h : 1280 ≤ n) (c : Cp) : awC.steps (zs n) (encL c) = (0, 0) :: (addrL (0 + 1) (encL c) ++ [(0, 1)]) := by
  have hcur : awC.curB (zs n) = (-1, 0) := by
    have := aw_cur h
    rwa [Cl.cur_on (by show awC.Ok (zs n).length; rw [List.length_replicate]; exact awC_ok h) rfl] at this
  unfold Cl.steps Cl.at
  rw [hcur]; rfl
theorem awB_0 (h : 1280 ≤ n) (c : Cp) : (awB n c).getD 0 0 = 1 := by
  have := flag_part (t := 0) (g := 1) (l := encL c) (b := zs n) (n := 189) (by decide) (by rw [encL_len, List.length_replicate]; omega) (by decide)
  rw [List.take_of_length_le (by simp [addrL_len, encL_len]), if_neg (by rw [encL_len]; decide)] at this
  unfold awB
  rw [aw_steps h]
  exact this
theorem awB_val (h : 1280 ≤ n) (c : Cp) : ((awB n c).drop 1).take 187 = encL c := by
  have := vals_full (t := 0) (g := 1) (l := encL c) (b := zs n) (by decide) (by rw [encL_len, List.length_replicate]; omega)
  unfold awB
  rw [aw_steps h]
  rw [encL_len] at this
  exact this
theorem awB_1 (h : 1280 ≤ n) (c : Cp) : (awB n c).getD 1 0 = (encL c).getD 0 0 := by
  have := congrArg (fun l => l.getD 0 0) (awB_val h c)
  simp only [List.getD_eq_getElem?_getD, List.getElem?_take, List.getElem?_drop] at this
  simpa using this
theorem awB_out (h : 1280 ≤ n) (c : Cp) (k : Nat) (hk : 400 ≤ k) : (awB n c).getD k 0 = 0 := by
  unfold awB
  rw [aw_steps h, List.getD_eq_getElem?_getD, putAll_out, ← List.getD_eq_getElem?_getD, zs_get]
  intro p hp
  simp only [List.mem_cons, List.mem_append, List.not_mem_nil, or_false] at hp
  rcases hp with rfl | hp | rfl
  · show (0 : Int).toNat ≠ k; simp; omega
  · have := addrL_mem _ _ _ hp
    rw [encL_len] at this; omega
  · show (0 : Int).toNat ≠ k; simp; omega
/-- A write that nothing hinders. -/
theorem free_write {b : List Int} {left wr a x : Int} (h : 0 ≤ a ∧ a < b.length) (h0 : 0 ≤ wr ∧ wr ≤ 1000000000) : (Mem.mk b false false left .off wr).write a x = (true, ⟨b.set a.toNat x, false, false, left, .off, wr + 1⟩) := by
  have hv : (Mem.mk b false false left .off wr).valid a 1 = true := Mem.valid_iff.2 ⟨h.1, by decide, by show a + 1 ≤ (b.length : Int); omega⟩
  have hw : IntKind.i64.wrap (wr + 1) = wr + 1 := by rw [IntKind.wrap_i64]; omega
  unfold Mem.write
  rw [if_neg (by rw [hv]; simp), if_neg (by simp), if_pos (by rfl)]
  simp only [Mtr.tick, hw, Bool.false_eq_true, if_false]
theorem free_save {b : List Int} {n : Nat} (hlen : b.length = n) (h : 3000 ≤ n) (h0 : b.getD 768 0 = 0) : ((awL n).save ⟨b, false, false, 0, .off, 190⟩ 1 2560).1 = 0 := by
  have hrd : Mem.read ⟨b, false, false, 0, .off, 190⟩ 768 = 0 := by
    rw [Mem.read_on rfl (by decide) (by show (768 : Int) < b.length; rw [hlen]; omega)]
    exact h0
  have hnum : (awL n).num ⟨b, false, false, 0, .off, 190⟩ 1 = 0 := by
    unfold Lg.num
    rw [if_pos (by decide)]
    unfold Lg.count
    show ((if (96 : Int) < Mem.read _ 768 then (96 : Int) else Mem.read _ 768)).toNat = 0
    rw [hrd]; rfl
  have hcan : (awL n).can 2560 = true := by
    unfold Lg.can
    exact decide_eq_true (by show (0 : Int) ≤ 2560 ∧ (2560 : Int) < n - 1 ∧ ((2560 : Int) + 1 < 768 ∨ (768 : Int) + (3 + 4 * 96) ≤ 2560); omega)
  have hr2 : (Lg.record (awL n) ⟨b, false, false, 0, .off, 190⟩ 2560).length = 4 := by
    unfold Lg.record Mem.readBytes
    have hv : Mem.valid ⟨b, false, false, 0, .off, 190⟩ 2560 2 = true := Mem.valid_iff.2 ⟨by decide, by decide, by show (2560 : Int) + 2 ≤ b.length; rw [hlen]; omega⟩
    simp [hv, hlen]; omega
  generalize hre : Lg.record (awL n) ⟨b, false, false, 0, .off, 190⟩ 2560 = re at hr2
  unfold Lg.save
  rw [hnum, hre, if_neg (by rw [hcan]; decide), if_neg (by simp [Lg.addrs]), if_neg (by show ¬ (((0 : Nat) : Int) = 96); decide)]
  have hve : Mem.valid ⟨b, false, false, 0, .off, 190⟩ 771 re.length = true := by
    rw [hr2]; exact Mem.valid_iff.2 ⟨by decide, by decide, by show (771 : Int) + (4 : Nat) ≤ b.length; rw [hlen]; omega⟩
  have he : (awL n).entry ((0 : Nat) : Int) = 771 := by unfold Lg.entry; rfl
  rw [he, Mem.writeBytes_puts rfl hve, Mem.puts_go false _ _ 0 190 (by
    intro p hp
    have := addrL_mem _ _ _ hp
    rw [hr2] at this
    rw [hlen]; omega) (by decide) (by rw [addrL_len, hr2]; decide) (by simp)]
  rw [if_neg (by simp)]
  simp only [Bool.false_eq_true, if_false]
  have e2 : (awL n).addr + 1 - 1 = 768 := by show (768 : Int) + 1 - 1 = 768; omega
  rw [e2, free_write (by rw [putAll_len, hlen]; omega) (by rw [addrL_len, hr2]; decide)]
  rfl
theorem aw_save (h : 3000 ≤ n) (c : Cp) : ((awL n).save ⟨awB n c, false, false, 0, .off, 190⟩ 1 2560).1 = 0 :=
  free_save (awB_len n c) h (awB_out (by omega) c 768 (by omega))
/-- What the first example asks of a memory, an empty one's answers. -/
structure Awk (M : Mem) : Prop where
  mtr : M.mtr.blocks = []
  off : M.off = false
  len : 1280 ≤ M.b.length
  no : (awC.read M).2.2 = false
  next : nextG (awC.current M).2 = 1
  co : (stCommit awC (awL M.b.length) M (c36 3 0)).1 = 0
  r0 : (stCommit awC (awL M.b.length) M (c36 3 0)).2.read 0 = 1
  r1 : (stCommit awC (awL M.b.length) M (c36 3 0)).2.read 1 = 3
  sv : ((awL (stCommit awC (awL M.b.length) M (c36 3 0)).2.b.length).save (stCommit awC (awL M.b.length) M (c36 3 0)).2 1 2560).1 = 0
theorem aw_read {b : List Int} {x : Int} (k : Nat) (h : k < b.length) (hx : b.getD k 0 = x) : (Mem.mk b false false 0 .off 190).read k = x := by
  rw [Mem.read_on (M := ⟨b, false, false, 0, .off, 190⟩) rfl (by omega) (by show (k : Int) < (b.length : Int); omega)]
  exact hx
theorem aw_all (h : 3000 ≤ n) : Awk (aw0 n) := by
  have h0 : 1280 ≤ n := by omega
  have hl : (aw0 n).b.length = n := List.length_replicate
  have hco := aw_commit h0 (c36 3 0) (c36_ok (by decide))
  have hbl := awB_len n (c36 3 0)
  have hb1 := awB_1 h0 (c36 3 0)
  have he : (encL (c36 3 0)).getD 0 0 = 3 := rfl
  rw [he] at hb1
  have hb0 := awB_0 h0 (c36 3 0)
  have hsv := aw_save h (c36 3 0)
  generalize awB n (c36 3 0) = B at hco hbl hb1 hb0 hsv
  refine ⟨rfl, rfl, by rw [hl]; exact h0, aw_no h0, aw_next h0, ?_, ?_, ?_, ?_⟩
  · rw [hl, hco]
  · rw [hl, hco]; exact aw_read 0 (by omega) hb0
  · rw [hl, hco]; exact aw_read 1 (by omega) hb1
  · rw [hl, hco]
    show ((awL B.length).save _ 1 2560).1 = 0
    rw [hbl]; exact hsv
end
end Go.Proofs.Ythpdpipcfhodoaa
