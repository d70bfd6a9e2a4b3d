/- An argument that reads as data of its type: what its cells are. No condition. -/
import Derived.Test.YthpdpipcfhodoaaNvm3
import Derived.ChangeSame
import Derived.ChangeSlices
import Derived.OpenShut
import Derived.SizedLaws
namespace Go.Proofs.Ythpdpipcfhodoaa
open Go.RowKit
set_option linter.unusedSimpArgs false
set_option maxHeartbeats 4000000
set_option linter.unusedVariables false

/-- What was read before the call takes no more than the form's reach. -/
def Wt {H : Type} (t : TypeId) (d : DataW H) : Prop := ∀ m, m ∈ DataW.weights Try.prog t d → m ≤ reachBytes
/-- The cells `cs` read as data of type `t` in the world `w`. -/
def ArgC (w : World) (t : TypeId) (cs : List Value) : Prop := ∃ (H : Type) (enc : TypeId × Value → H) (n : Nat) (x : DataW H × List MemPlace), DataW.trod enc Try.prog w 0 (fun _ => true) true n t cs = some x ∧ Wt t x.1
/-- The value `v` reads as data of type `t` in the world `w`. -/
def Arg (w : World) (t : TypeId) (v : Value) : Prop := ArgC w t v.cells.toList
theorem Arg.c {w : World} {t : TypeId} {v : Value} (h : Arg w t v) : ArgC w t v.cells.toList := h
theorem Arg.of {H : Type} {enc : TypeId × Value → H} {w : World} {t : TypeId} {v : Value} {ts : List TypeId} {ds : List (DataW H)} {j : Nat} {d : DataW H} {ps : List MemPlace} (h : DataW.Trod enc Try.prog w 0 (fun _ => true) true t v d ps)
    (hs : (DataW.weightsEach Try.prog ts ds).all (· ≤ reachBytes) = true) (ht : ts[j]? = some t) (hd : ds[j]? = some d) : Arg w t v := by
  obtain ⟨n, h⟩ := h
  refine ⟨H, enc, n, _, h, fun m hm => ?_⟩
  have := List.all_eq_true.1 hs m (DataW.weights_mem_each ht hd m hm)
  simpa using this

theorem ArgC.struct {w : World} {t : TypeId} {cs : List Value} {fs : Array Field} (h : ArgC w t cs) (ht : Try.prog.underlying t = some (.struct fs)) :
    cs.length = Try.prog.cellsOf t ∧ ∀ (i : Nat) (f : Field), fs[i]? = some f → ArgC w f.type ((cs.drop f.offset).take (Try.prog.cellsOf f.type)) := by
  obtain ⟨H, enc, n, x, h, hw⟩ := h
  obtain ⟨xs, m, _, rfl, hl, hlen, hf⟩ := DataW.trod_struct ht h
  refine ⟨hl, fun i f hi => ?_⟩
  have hlt : i < fs.size := (Array.getElem?_eq_some_iff.1 hi).1
  refine ⟨H, enc, m, xs[i], by rw [hf i f hi, List.getElem?_eq_getElem], fun k hk => hw k ?_⟩
  have := DataW.weights_mem_each (P := Try.prog) (ts := fs.toList.map (·.type)) (ds := xs.map (·.1)) (j := i) (t := f.type) (d := xs[i].1) (by simp [hi]) (by simp; exact ⟨xs[i].2, List.getElem?_eq_getElem (by omega)⟩) k hk
  simpa [DataW.weights, ht] using this

theorem ArgC.field {w : World} {t : TypeId} {cs : List Value} {fs : Array Field} (h : ArgC w t cs) (ht : Try.prog.underlying t = some (.struct fs)) (i T o z : Nat) (hi : (fs[i]?).map (fun f => (f.type, f.offset)) = some (T, o)) (hz : Try.prog.cellsOf T = z) :
    ArgC w T ((cs.drop o).take z) := by
  cases hf : fs[i]? with
  | none => simp [hf] at hi
  | some f =>
    simp [hf] at hi
    have := (h.struct ht).2 i f hf
    rw [hi.1, hi.2, hz] at this
    exact this

theorem ArgC.int {w : World} {t : TypeId} {cs : List Value} {k : IntKind} (h : ArgC w t cs) (ht : Try.prog.underlying t = some (.int k)) : ∃ n, cs = [.int k n] ∧ (Lit.int k n).wf = true := by
  obtain ⟨H, enc, n, x, h, -⟩ := h
  cases n with
  | zero => simp [DataW.trod] at h
  | succ n =>
    unfold DataW.trod at h
    rw [ht] at h
    split at h <;> simp_all

theorem ArgC.bool {w : World} {t : TypeId} {cs : List Value} (h : ArgC w t cs) (ht : Try.prog.underlying t = some .bool) : ∃ b, cs = [.bool b] := by
  obtain ⟨H, enc, n, x, h, -⟩ := h
  cases n with
  | zero => simp [DataW.trod] at h
  | succ n =>
    unfold DataW.trod at h
    rw [ht] at h
    split at h <;> simp_all

theorem weights_mem_all {H : Type} {P : Program} {e : TypeId} : ∀ {ds : List (DataW H)} {d : DataW H}, d ∈ ds → ∀ n ∈ d.weights P e, n ∈ DataW.weightsAll P e ds := by
  intro ds
  induction ds with
  | nil => intro d h; simp at h
  | cons x ds ih =>
    intro d h n hn
    simp only [DataW.weightsAll, List.mem_append]
    rcases List.mem_cons.1 h with rfl | h
    · exact .inl hn
    · exact .inr (ih h n hn)

theorem spot_none {w : World} {b o i : Nat} {sp : Option Nat} {v : Value} (h : w.cell? ((⟨b, o, sp⟩ : Addr).add i) = some v) (hi : i = 0) : sp = none := by
  subst hi
  cases sp with
  | none => rfl
  | some s =>
    simp only [Addr.add, if_true, World.cell?] at h
    split at h <;> simp at h

theorem cell_lt {w : World} {a : Addr} {v : Value} (h : w.cell? a = some v) : a.block < w.heap.size := by
  simp only [World.cell?] at h
  split at h
  · rename_i hh; exact (Array.getElem?_eq_some_iff.1 hh).1
  · simp at h

theorem add_none (b o i : Nat) : (⟨b, o, none⟩ : Addr).add i = ⟨b, o + i, none⟩ := by unfold Addr.add; split <;> simp_all

theorem mapM_some {α β : Type} {f : α → Option β} : ∀ (l : List α) (ys : List β), l.mapM f = some ys → ys.length = l.length ∧ ∀ (j : Nat) a v, l[j]? = some a → ys[j]? = some v → f a = some v := by
  intro l
  induction l with
  | nil => intro ys h; simp at h; subst h; exact ⟨rfl, by simp⟩
  | cons a l ih =>
    intro ys h
    simp only [List.mapM_cons, Option.bind_eq_bind, Option.bind_eq_some_iff] at h
    obtain ⟨y, hy, ys', hys, h⟩ := h
    simp at h; subst h
    obtain ⟨h1, h2⟩ := ih ys' hys
    refine ⟨by simp [h1], fun j b v hb hv => ?_⟩
    cases j with
    | zero => simp at hb hv; subst hb hv; exact hy
    | succ j => simp at hb hv; exact h2 j b v hb hv
theorem mapM_some_range {α : Type} {f : Nat → Option α} {n : Nat} {l : List α} (h : (List.range n).mapM f = some l) : l.length = n ∧ ∀ (j : Nat) v, l[j]? = some v → f j = some v := by
  obtain ⟨h1, h2⟩ := mapM_some _ _ h
  rw [List.length_range] at h1
  refine ⟨h1, fun j v hj => h2 j j v ?_ hj⟩
  have : j < l.length := (List.getElem?_eq_some_iff.1 hj).1
  rw [List.getElem?_range (by omega)]

/-- A slice of elements of `sz` cells: it is nil, or a row; each element's cells read as data. -/
theorem ArgC.slice {w : World} {t e sz by_ : Nat} {cs : List Value} (h : ArgC w t cs) (ht : Try.prog.underlying t = some (.slice e)) (hz : Try.prog.cellsOf e = sz) (hpos : 0 < sz) (hby : Try.prog.bytesOf e = by_) :
    ∃ a len cap, cs = [.slice a len cap] ∧ len ≤ cap ∧ cap ≤ maxLen ∧ len * by_ ≤ 140737488351232 ∧ (len = 0 ∨ ∃ b o, a = some ⟨b, o, none⟩ ∧ b < w.heap.size ∧ ∀ i, i < len → ∃ es : List Value, es.length = sz ∧ ArgC w e es ∧ ∀ (j : Nat) v, es[j]? = some v → w.cell? ⟨b, o + (i * sz + j), none⟩ = some v) := by
  obtain ⟨H, enc, n, x, h, hw⟩ := h
  rcases DataW.trod_slice ht h with ⟨rfl, _⟩ | ⟨a, len, cap, elems, rest, m, _, rfl, rfl, _, hl, hm, hlen, hel, hsp, _⟩
  · exact ⟨none, 0, 0, rfl, Nat.le_refl _, by simp, by simp, .inl rfl⟩
  · have hlen2 : (elems.length + rest.length) * by_ ≤ reachBytes := by
      refine hw _ ?_
      simp [DataW.weights, ht, hby]
    have hlen3 : len * by_ ≤ 140737488351232 := by
      have : len * by_ ≤ (elems.length + rest.length) * by_ := Nat.mul_le_mul_right _ (by omega)
      simp only [reachBytes] at hlen2
      omega
    refine ⟨some a, len, cap, rfl, hl, hm, hlen3, ?_⟩
    rcases Nat.eq_zero_or_pos len with h0 | h0
    · exact .inl h0
    right
    obtain ⟨b, o, sp⟩ := a
    have each : ∀ i, i < len → ∃ es : List Value, es.length = sz ∧ ArgC w e es ∧ ∀ (j : Nat) v, es[j]? = some v → w.cell? ((((⟨b, o, sp⟩ : Addr).add (i * sz))).add j) = some v := by
      intro i hi
      have h1 := hel i hi
      rw [hz, List.getElem?_eq_getElem (by omega)] at h1
      rw [Option.bind_eq_some_iff] at h1
      obtain ⟨es, h2, h3⟩ := h1
      simp only [World.cells?, Nat.zero_le, if_true] at h2
      have h4 := mapM_some_range h2
      refine ⟨es, h4.1, ⟨H, enc, m, _, h3, fun k hk => hw k ?_⟩, h4.2⟩
      have := weights_mem_all (P := Try.prog) (e := e) (ds := elems.map (·.1)) (d := (elems[i]'(by omega)).1) (List.mem_map.2 ⟨_, List.getElem_mem _, rfl⟩) k hk
      simp only [DataW.weights, ht, List.mem_cons, List.mem_append]
      exact .inr (.inl this)
    obtain ⟨es0, hes0, _, hc0⟩ := each 0 h0
    obtain ⟨v0, hv0⟩ : ∃ v0, es0[0]? = some v0 := ⟨es0[0], List.getElem?_eq_getElem (by omega)⟩
    have hcc := hc0 0 v0 hv0
    have e1 : (((⟨b, o, sp⟩ : Addr).add (0 * sz)).add 0) = ⟨b, o, sp⟩ := by simp [Addr.add]
    rw [e1] at hcc
    have hsp : sp = none := spot_none (i := 0) (by simpa [Addr.add] using hcc) rfl
    subst hsp
    refine ⟨b, o, rfl, cell_lt hcc, fun i hi => ?_⟩
    obtain ⟨es, h5, h6, h7⟩ := each i hi
    refine ⟨es, h5, h6, fun j v hj => ?_⟩
    have := h7 j v hj
    rw [add_none, add_none] at this
    rw [Nat.add_assoc] at this
    exact this

theorem ArgC.bytes {w : World} {t e : Nat} {cs : List Value} (h : ArgC w t cs) (ht : Try.prog.underlying t = some (.slice e)) (he : Try.prog.underlying e = some (.int .u8)) (hz : Try.prog.cellsOf e = 1) (hby : Try.prog.bytesOf e = 1) :
    ∃ a len cap l, cs = [.slice a len cap] ∧ l.length = len ∧ RdB w [] (.slice a len cap) l ∧ len ≤ 140737488351232 := by
  obtain ⟨a0, len0, cap0, e0, _, _, hsz, _⟩ := h.slice ht hz (by omega) hby
  obtain ⟨H, enc, n, x, h, hw⟩ := h
  rcases Go.ChangeShapes.open_ints ht he hz h with ⟨rfl, _⟩ | ⟨a, len, cap, zs, rfl, _, hl, hm, hlen, _, hc, hwf⟩
  · exact ⟨none, 0, 0, [], rfl, rfl, ⟨none, 0, rfl, Nat.le_refl _, by simp, .inl rfl⟩, by omega⟩
  · have := rdb_of_row (w := w) (a := some a) (len := len) (cap := cap) (zs := zs) (.inr ⟨a, rfl, hl, hm, by simpa using hlen, hc, hwf⟩)
    simp at e0
    obtain ⟨_, rfl, _⟩ := e0
    exact ⟨some a, len, cap, zs.take len, rfl, this.1, this.2, by omega⟩

theorem skolem_lt {α : Type} [Inhabited α] {len : Nat} {P : Nat → α → Prop} (h : ∀ i, i < len → ∃ a, P i a) : ∃ f : Nat → α, ∀ i, i < len → P i (f i) :=
  ⟨fun i => if hi : i < len then (h i hi).choose else default, fun i hi => by simp only [dif_pos hi]; exact (h i hi).choose_spec⟩

end Go.Proofs.Ythpdpipcfhodoaa
