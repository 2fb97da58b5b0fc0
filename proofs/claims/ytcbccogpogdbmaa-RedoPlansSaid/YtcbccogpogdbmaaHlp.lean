/- Small words on blocks of cells. -/
import Derived.Test.YtcbccogpogdbmaaMore2
import Derived.Test.YtcbccogpogdbmaaLater
import Derived.Lib.Hide
namespace Go.Proofs.Ytcbccogpogdbmaa
open Go.RowKit
theorem cell_at {w : World} {b i : Nat} {cs : Array Value} {t : TypeId} (h : w.heap[b]? = some (.cells cs t (0, 0))) : w.cell? ⟨b, i, none⟩ = cs[i]? := by simp [World.cell?, h]
theorem frozen_at {w : World} {b i : Nat} {cs : Array Value} {t : TypeId} (h : w.heap[b]? = some (.cells cs t (0, 0))) : w.frozen? ⟨b, i, none⟩ = false := by simp [World.frozen?, h]
theorem setCell_at {w : World} {b i : Nat} {cs : Array Value} {t : TypeId} (h : w.heap[b]? = some (.cells cs t (0, 0))) (u : Value) : (w.setCell ⟨b, i, none⟩ u).heap[b]? = some (.cells (cs.setIfInBounds i u) t (0, 0)) := by simp [World.setCell, Array.getElem?_modify, h]
theorem lt_of_cell {w : World} {b o : Nat} {v : Value} (h : w.cell? ⟨b, o, none⟩ = some v) : b < w.heap.size := World.block_lt_of_cell? w _ h
theorem Fr.at0 {w w' : World} (h : Fr [] w w') {b o : Nat} {v : Value} (hc : w.cell? ⟨b, o, none⟩ = some v) : w'.cell? ⟨b, o, none⟩ = some v := by
  rw [h.cell (p := ⟨b, o, none⟩) (lt_of_cell hc) (by simp)]; exact hc
theorem set4 {w : World} {b : Nat} {y0 y1 y2 y3 : Value} {t : TypeId} (h : w.heap[b]? = some (.cells #[y0, y1, y2, y3] t (0, 0))) (x0 x1 x2 x3 : Value) : ((((w.setCell ⟨b, 0, none⟩ x0).setCell ⟨b, 1, none⟩ x1).setCell ⟨b, 2, none⟩ x2).setCell ⟨b, 3, none⟩ x3).heap[b]? = some (.cells #[x0, x1, x2, x3] t (0, 0)) := by
  rw [setCell_at (setCell_at (setCell_at (setCell_at h x0) x1) x2) x3]; rfl
theorem fr_set4 (w : World) (b : Nat) (x0 x1 x2 x3 : Value) : Fr [b] w ((((w.setCell ⟨b, 0, none⟩ x0).setCell ⟨b, 1, none⟩ x1).setCell ⟨b, 2, none⟩ x2).setCell ⟨b, 3, none⟩ x3) :=
  ((((Fr.refl [b] w).setCell _ _ (.inl (by simp))).setCell _ _ (.inl (by simp))).setCell _ _ (.inl (by simp))).setCell _ _ (.inl (by simp))
theorem owns_base {w : World} {base base' : Nat} {e : TypeId} {k n : Nat} {v : Value} {xs : List Value} (h : w.ownsRow base e k v n xs) (hb : base' ≤ base) : w.ownsRow base' e k v n xs := by
  refine ⟨h.1, ?_⟩
  rcases h.2 with h0 | ⟨g, cap, cur, rfl, h1, h2⟩
  · exact .inl h0
  · exact .inr ⟨g, cap, cur, rfl, by omega, h2⟩
end Go.Proofs.Ytcbccogpogdbmaa
