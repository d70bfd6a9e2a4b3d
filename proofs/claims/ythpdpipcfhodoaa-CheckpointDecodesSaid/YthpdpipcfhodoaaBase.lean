/- Small lemmas on blocks of cells and on what a call leaves alone: no program in sight. No condition. -/
import Derived.Test.YthpdpipcfhodoaaChecked
import Derived.WalkKit
import Derived.WalkSpells
import Derived.WalkLawsBesides
namespace Go.Proofs.Ythpdpipcfhodoaa
open Go.RowKit

theorem cell_of {w : World} {g i : Nat} {c : Array Value} {T : TypeId} {f : Nat × Nat} {v : Value} (h : w.heap[g]? = some (.cells c T f)) (hv : c[i]? = some v) :
    w.cell? ⟨g, i, none⟩ = some v := by simp [World.cell?, h, hv]

theorem free_of {w : World} {g i : Nat} {c : Array Value} {T : TypeId} (h : w.heap[g]? = some (.cells c T (0, 0))) : w.frozen? ⟨g, i, none⟩ = false := by
  simp [World.frozen?, h]

theorem heap_set {w : World} {g i : Nat} {c : Array Value} {T : TypeId} {f : Nat × Nat} {u : Value} (h : w.heap[g]? = some (.cells c T f)) :
    (w.setCell ⟨g, i, none⟩ u).heap[g]? = some (.cells (c.setIfInBounds i u) T f) := by
  have hlt := lt_of_block h
  have h' : w.heap[g] = .cells c T f := by simpa [Array.getElem?_eq_getElem hlt] using h
  show (w.heap.modify g _)[g]? = _
  rw [Array.getElem?_eq_getElem (by simpa using hlt), Array.getElem_modify_self, h']
  rfl

theorem heap_set_ne {w : World} {g i b : Nat} {u : Value} (h : b ≠ g) : (w.setCell ⟨g, i, none⟩ u).heap[b]? = w.heap[b]? := Below.heap_setCell w ⟨g, i, none⟩ u b h

theorem heap_set_size {w : World} {a : Addr} {u : Value} : (w.setCell a u).heap.size = w.heap.size := by simp [World.setCell]

/-- What a call leaves alone: every block that was there, but those of the list. -/
structure Fr (w w' : World) (S : List Nat) : Prop where
  os : w'.os = w.os
  tape : w'.tape = w.tape
  output : w'.output = w.output
  size : w.heap.size ≤ w'.heap.size
  block : ∀ k, k < w.heap.size → k ∉ S → w'.heap[k]? = w.heap[k]?

theorem Fr.refl (w : World) (S : List Nat) : Fr w w S := ⟨rfl, rfl, rfl, Nat.le_refl _, fun _ _ _ => rfl⟩
theorem Fr.trans {a b c : World} {S : List Nat} (h : Fr a b S) (k : Fr b c S) : Fr a c S :=
  ⟨k.os.trans h.os, k.tape.trans h.tape, k.output.trans h.output, Nat.le_trans h.size k.size, fun i hi hS => (k.block i (Nat.lt_of_lt_of_le hi h.size) hS).trans (h.block i hi hS)⟩
theorem Fr.mono {a b : World} {S S' : List Nat} (h : Fr a b S) (hS : ∀ k, k ∈ S → k ∈ S') : Fr a b S' :=
  ⟨h.os, h.tape, h.output, h.size, fun i hi hn => h.block i hi (fun hm => hn (hS i hm))⟩
theorem Fr.set {a b : World} {S : List Nat} (h : Fr a b S) {g i : Nat} (hg : g ∈ S) (u : Value) : Fr a (b.setCell ⟨g, i, none⟩ u) S :=
  ⟨h.os, h.tape, h.output, by rw [heap_set_size]; exact h.size, fun k hk hS => by rw [heap_set_ne (fun e => by subst e; exact hS hg)]; exact h.block k hk hS⟩
/-- A store into a block that is newer than the beginning. -/
theorem Fr.setNew {a b : World} {S : List Nat} (h : Fr a b S) {g i : Nat} (hg : a.heap.size ≤ g) (u : Value) : Fr a (b.setCell ⟨g, i, none⟩ u) S :=
  ⟨h.os, h.tape, h.output, by rw [heap_set_size]; exact h.size, fun k hk hS => by rw [heap_set_ne (by omega)]; exact h.block k hk hS⟩
theorem Fr.alloc {a b : World} {S : List Nat} (h : Fr a b S) (o : Obj) : Fr a (b.alloc o) S :=
  ⟨h.os, h.tape, h.output, by have := h.size; simp; omega, fun k hk hS => by rw [Below.heap_alloc _ _ _ (by have := h.size; omega)]; exact h.block k hk hS⟩
theorem Fr.drew {a b : World} {S : List Nat} (h : Fr a b S) : Fr a b.drew S := ⟨h.os, h.tape, h.output, h.size, h.block⟩
theorem Fr.drewN {a b : World} {S : List Nat} (h : Fr a b S) (n : Nat) : Fr a (b.drewN n) S := ⟨h.os, h.tape, h.output, h.size, h.block⟩
theorem Fr.grown {a b c : World} {S : List Nat} {row : Option Nat} (h : Fr a b S) (hg : b.grownBy c row) (hr : ∀ k, row = some k → k ∈ S ∨ a.heap.size ≤ k) : Fr a c S :=
  ⟨hg.os.trans h.os, hg.tape.trans h.tape, hg.output.trans h.output, Nat.le_trans h.size hg.size,
   fun k hk hS => by
    rw [hg.block k (by have := h.size; omega) (fun e => by rcases hr k e.symm with h1 | h1; exact hS h1; omega)]
    exact h.block k hk hS⟩
/-- A call whose blocks are all new, or among ours, seen from an earlier beginning. -/
theorem Fr.step {a b c : World} {S S' : List Nat} (h : Fr a b S) (k : Fr b c S') (hS : ∀ x, x ∈ S' → x ∈ S ∨ a.heap.size ≤ x) : Fr a c S :=
  ⟨k.os.trans h.os, k.tape.trans h.tape, k.output.trans h.output, Nat.le_trans h.size k.size,
   fun i hi hn => (k.block i (Nat.lt_of_lt_of_le hi h.size) (fun hm => by rcases hS i hm with h1 | h1; exact hn h1; omega)).trans (h.block i hi hn)⟩
theorem Fr.back {a b c : World} {S S' : List Nat} (k : Fr b c S') (hS : ∀ x, x ∈ S' → x ∈ S ∨ a.heap.size ≤ x) (h : Fr a b S) : Fr a c S := h.step k hS
theorem Fr.below {a b : World} {S : List Nat} (h : Fr a b S) {B : Nat} (hB : B ≤ a.heap.size) (hS : ∀ x, x ∈ S → B ≤ x) : Below B a b :=
  ⟨h.os, h.tape, h.output, h.size, fun k hk => h.block k (by omega) (fun hm => by have := hS k hm; omega)⟩
theorem Fr.blk {a b : World} {S : List Nat} (h : Fr a b S) {k : Nat} {o : Obj} (ho : a.heap[k]? = some o) (hS : k ∉ S) : b.heap[k]? = some o :=
  (h.block k (lt_of_block ho) hS).trans ho

end Go.Proofs.Ythpdpipcfhodoaa
