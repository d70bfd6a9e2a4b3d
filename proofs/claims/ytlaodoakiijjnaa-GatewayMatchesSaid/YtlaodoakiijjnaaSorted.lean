/- The keys of a map from ints, sorted: what slices.Sorted(maps.Keys(m)) hands back. No condition. -/
import Derived.Test.YtlaodoakiijjnaaMapV
import Derived.Test.YtlaodoakiijjnaaShelf
namespace Go.Proofs.Ytlaodoakiijjnaa
open Go.RowKit Go.Shelf
open Go.WideElems (Fit rd rg)
open Go.WideShapes (sorted_perm)
set_option linter.unusedSimpArgs false
set_option maxHeartbeats 4000000
set_option linter.unusedVariables false

def anyR (_ : Value) : Option (DataW Unit × List MemPlace) := some (.nil, [])
theorem IsMap.owns {P : Program} {k : TypeId} {w : World} {r : Nat} {l : List (Int × Value)} (hk : P.underlying k = some (.int .i64)) (h : IsMap w r l) (hl : l.length ≤ 1000000) (hwf : ∀ p ∈ l, (Lit.int .i64 p.1).wf = true) :
    ∃ D0 : DataW Unit, w.ownsMap P k anyR r l.length D0 ∧ Maps.size D0 = l.length ∧ (intKeys D0).Perm (l.map (·.1)) := by
  obtain ⟨es, cl, h1, h2, h3⟩ := h
  have hlen : es.toList.length = l.length := by have := congrArg List.length h3; simpa using this
  have hent : ∀ x ∈ es.toList, ∃ p ∈ l, x.key = .int .i64 p.1 := by
    intro x hx
    have hm : (x.key, x.val) ∈ l.map entV := by rw [← h3]; exact List.mem_map_of_mem hx
    obtain ⟨p, hp, hpe⟩ := List.mem_map.1 hm
    simp only [entV, Prod.mk.injEq] at hpe
    exact ⟨p, hp, hpe.1.symm⟩
  have hrd : ∀ x ∈ es.toList, ∃ p ∈ l, x.key = .int .i64 p.1 ∧ rd P k anyR x = some (.int .i64 p.1, .nil) := by
    intro x hx
    obtain ⟨p, hp, he⟩ := hent x hx
    refine ⟨p, hp, he, ?_⟩
    unfold rd
    rw [he, Maps.keyOf_int_mk hk (hwf p hp)]
    rfl
  refine ⟨.map ((es.toList.map (rg P k anyR)).foldr DataW.insert []), ⟨es, cl, h1, ⟨by rw [← Array.length_toList, hlen]; unfold maxLen; omega, h2, fun x hx => ?_⟩, by rw [← Array.length_toList]; omega, rfl⟩, ?_, ?_⟩
  · obtain ⟨p, -, -, e⟩ := hrd x hx
    exact ⟨_, e⟩
  · show ((es.toList.map (rg P k anyR)).foldr DataW.insert []).length = _
    rw [length_sorted]; simpa using hlen
  · show (((es.toList.map (rg P k anyR)).foldr DataW.insert []).map fun p : Lit × DataW Unit => Go.intOf p.1).Perm _
    refine ((sorted_perm _).map _).trans (List.Perm.of_eq ?_)
    rw [List.map_map]
    have e1 : es.toList.map (fun x => Go.intOf (rg P k anyR x).1) = (es.toList.map (fun e => (e.key, e.val))).map (fun q => match q.1 with | .int _ a => a | _ => 0) := by
      rw [List.map_map]
      apply List.map_congr_left
      intro x hx
      obtain ⟨p, -, he, e⟩ := hrd x hx
      simp [rg, e, he, Go.intOf]
    show es.toList.map (fun x => Go.intOf (rg P k anyR x).1) = _
    rw [e1, h3, List.map_map]
    rfl

theorem wf_i64 {a : Int} (h1 : -9223372036854775808 ≤ a) (h2 : a ≤ 9223372036854775807) : (Lit.int .i64 a).wf = true := by
  simp only [Lit.wf, Bool.and_eq_true, decide_eq_true_eq]
  exact ⟨h1, h2⟩
theorem Fr.of_below {w w' : World} (h : Below w.heap.size w w') : Fr w w' [] := ⟨h.os, h.tape, h.output, h.size, fun k hk _ => h.block k hk⟩

theorem sortsA_Ytlaodoakiijjnaa (m : Nat) : AnyZI.SortsIn Try.prog Try.sortedA_ren Fence.wide m :=
  ⟨fun blk off cap ss W hH hblk hsz => callsIn_wide.2 (AnyM.slices_Sort_int Try.sortA blk off cap ss W hH hblk hsz),
   fun p cap W => callsIn_wide.2 (AnyM.slices_Sort_int_none Try.sortA p cap W)⟩

theorem gkeys_calls (mb : Option Nat) (W : World) : Calls Try.prog 37 #[.map mb] W fun e w' =>
    e = .returned (.func (.func 52) #[] #[.pointer (some ⟨W.heap.size, 0, none⟩)]) ∧ w' = W.alloc (.cells #[.map mb] 59) :=
  (callsIn_wide (n := 5)).1 (AnyZI.keys_in Try.keysA Fence.wide 5 trivial rfl mb W)
theorem gsorted_calls {p r : Nat} {l : List (Int × Value)} (w : World) (hm : IsMap w r l) (hp : w.cell? ⟨p, 0, none⟩ = some (.map (some r))) (hpl : p < w.heap.size) (hl : l.length ≤ 1000000) (hwf : ∀ p ∈ l, (Lit.int .i64 p.1).wf = true) :
    Calls Try.prog 36 #[.func (.func 52) #[] #[.pointer (some ⟨p, 0, none⟩)]] w fun e w' =>
      ∃ v, e = .returned v ∧ w'.ownsRow w.heap.size 3 1 v l.length (((l.map (·.1)).mergeSort leI).map (Value.int .i64)) ∧ Fr w w' [] := by
  obtain ⟨D0, hown, hsz, hperm⟩ := hm.owns Try.underlying3 hl hwf
  have hseq : SeqGives Fence.wide 2 Try.prog 52 #[.pointer (some ⟨p, 0, none⟩)] encZ (fun ss => ss.Perm (intKeys D0)) (Maps.size D0) w :=
    AnyZI.keys_gives (ρ := Try.keysA_ren) { Try.keysA with } Fence.wide _ trivial rfl (by omega) p r _ D0 _ hpl hp hown
  have cS := AnyZI.sorted_in Try.sortedA Fence.wide 5 trivial trivial trivial trivial rfl (by omega) (sortsA_Ytlaodoakiijjnaa _) (enters_of Try.func51 (by kernel_rfl) rfl) 52 #[.pointer (some ⟨p, 0, none⟩)] trivial (enters_of Try.func52 (by kernel_rfl) rfl) _ _ (by rw [hsz]; unfold maxLen; omega) (by rw [hsz]; omega) _ hseq
  refine ((callsIn_wide (n := 5)).1 cS).mono ?_
  rintro e w' ⟨v, ss, rfl, hS, hrow, -, hb⟩
  have hp2 := hS.trans hperm
  have hlen : ss.length = l.length := by simpa using hp2.length_eq
  rw [hlen, mergeSort_of_perm_i hp2] at hrow
  exact ⟨v, rfl, hrow, Fr.of_below hb⟩
end Go.Proofs.Ytlaodoakiijjnaa
