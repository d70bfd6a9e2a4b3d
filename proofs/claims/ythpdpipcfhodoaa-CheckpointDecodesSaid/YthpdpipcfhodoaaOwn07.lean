/- Rows of one's own, laid open. No condition. -/
import Derived.Test.YthpdpipcfhodoaaNvm4
namespace Go.Proofs.Ythpdpipcfhodoaa
open Go.RowKit
set_option linter.unusedSimpArgs false
set_option maxHeartbeats 4000000
set_option linter.unusedVariables false

/-- A row of one's own, laid open. -/
theorem own_open {w : World} {base n e sz : Nat} {v : Value} {xs : List Value} (h : w.ownsRow base e sz v n xs) (hne : 0 < n) :
    ∃ b cap cur, v = .slice (some ⟨b, 0, none⟩) n cap ∧ base ≤ b ∧ w.heap[b]? = some (.cells cur e (0, 0)) ∧ n ≤ cap ∧ cap ≤ maxLen ∧ cur.size = cap * sz ∧ cur.toList.take (n * sz) = xs := by
  obtain ⟨h1, h2⟩ := h
  rcases h2 with ⟨rfl, h0⟩ | ⟨g, cap, cur, rfl, hg, hh, hc, hm, hs, ht⟩
  · omega
  · exact ⟨g, cap, cur, rfl, hg, hh, hc, hm, hs, ht⟩
theorem own_close {w : World} {base n e sz b cap : Nat} {xs : List Value} {cur : Array Value} (hb : base ≤ b) (hh : w.heap[b]? = some (.cells cur e (0, 0))) (hc : n ≤ cap) (hm : cap ≤ maxLen) (hs : cur.size = cap * sz) (ht : cur.toList.take (n * sz) = xs) :
    w.ownsRow base e sz (.slice (some ⟨b, 0, none⟩) n cap) n xs :=
  ⟨by rw [← ht, List.length_take]; simp only [Array.length_toList, hs]; exact Nat.min_eq_left (Nat.mul_le_mul_right _ hc), .inr ⟨b, cap, cur, rfl, hb, hh, hc, hm, hs, ht⟩⟩

/-- A byte of one's own row is replaced. -/
theorem own_put {w : World} {base n i b cap : Nat} {l : List Int} {x : Int} {cur : Array Value} (hb : base ≤ b) (hh : w.heap[b]? = some (.cells (cur.setIfInBounds i (.int .u8 x)) 5 (0, 0))) (hc : n ≤ cap) (hm : cap ≤ maxLen) (hs : cur.size = cap * 1) (ht : cur.toList.take (n * 1) = bytesV l) :
    w.ownsRow base 5 1 (.slice (some ⟨b, 0, none⟩) n cap) n (bytesV (l.set i x)) := by
  refine own_close hb hh hc hm (by simpa using hs) ?_
  rw [Array.toList_setIfInBounds, List.take_set, ht]
  simp [bytesV, List.map_set]
theorem Ox.storeRow {P : Program} {d : Option Nat} {ty : TypeId} {pos : String} {aft : Array Edge} {g : Option (Nat × Bool)} {ρ : Env} {w : World} {K : Value → World → Prop} {t b i : Nat} [ho : S1 P t] {x y : Operand} {c : Array Value} {T : TypeId} {v : Value} (hx : ev ρ x = .pointer (some ⟨b, i, none⟩)) (hb : w.heap[b]? = some (.cells c T (0, 0))) (hi : i < c.size)
    (hy : ev ρ y = v) (hv : plainV v = true) (h : ∀ w', w'.heap[b]? = some (.cells (c.setIfInBounds i v) T (0, 0)) → Fr w w' [b] → w'.heap.size = w.heap.size → K undef w') : Ox P ⟨d, .store t x y, ty, pos, aft, g⟩ ρ w K :=
  Ox.storeB hx hb hi hy hv rfl h

theorem RdB.slice {w : World} {S : List Nat} {v : Value} {l : List Int} (h : RdB w S v l) : ∃ a c, v = .slice a l.length c := by
  obtain ⟨a, c, h, -⟩ := h
  exact ⟨a, c, h⟩
end Go.Proofs.Ythpdpipcfhodoaa
