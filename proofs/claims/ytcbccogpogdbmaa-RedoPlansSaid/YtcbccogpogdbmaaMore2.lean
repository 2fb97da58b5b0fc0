/- Slices: a cell of an element is stored; the cells of a row of the call's own. -/
import Derived.Test.YtcbccogpogdbmaaMore
namespace Go.Proofs.Ytcbccogpogdbmaa
open Go.RowKit Go.Maps Go.Sort
theorem flat_set {α : Type} {enc : α → List Value} {k : Nat} (hk : ∀ x, (enc x).length = k) : ∀ (S : List α) (i : Nat) (x x' : α) (j : Nat) (u : Value), S[i]? = some x → j < k → enc x' = (enc x).set j u → (S.set i x').flatMap enc = (S.flatMap enc).set (i * k + j) u
  | [], i, x, x', j, u, h, _, _ => by simp at h
  | y :: S, 0, x, x', j, u, h, hj, he => by
    simp only [List.getElem?_cons_zero, Option.some.injEq] at h
    subst h
    rw [List.set_cons_zero, List.flatMap_cons, List.flatMap_cons, he, List.set_append_left _ _ (by rw [hk]; omega)]
    simp
  | y :: S, i + 1, x, x', j, u, h, hj, he => by
    rw [List.getElem?_cons_succ] at h
    rw [List.set_cons_succ, List.flatMap_cons, List.flatMap_cons, flat_set hk S i x x' j u h hj he, List.set_append_right _ _ (by rw [hk, Nat.succ_mul]; omega)]
    congr 2
    rw [hk, Nat.succ_mul]; omega
/-- A cell of an element is stored: the element turns, the others stay. -/
theorem SliceIs.setAt {w : World} {B : Nat → Prop} {α : Type} {enc : α → List Value} {k g off n cap : Nat} {S : List α} (h : SliceIs w B enc (.slice (some ⟨g, off, none⟩) n cap) S) (hk : ∀ x, (enc x).length = k) (i : Nat) (x x' : α) (j : Nat) (u : Value)
    (hx : S[i]? = some x) (hj : j < k) (he : enc x' = (enc x).set j u) : SliceIs (w.setCell ⟨g, off + (i * k + j), none⟩ u) B enc (.slice (some ⟨g, off, none⟩) n cap) (S.set i x') := by
  obtain ⟨a', cap', hv, h1, h2, h3⟩ := h
  cases hv
  refine ⟨some ⟨g, off, none⟩, cap, by rw [List.length_set], by rw [List.length_set]; exact h1, h2, ?_⟩
  rcases h3 with h3 | ⟨g', off', ha, hb, hg, hc⟩
  · subst h3; simp at hx
  · cases ha
    right
    refine ⟨g, off, rfl, hb, by simpa [World.setCell] using hg, fun m v hm => ?_⟩
    rw [flat_set hk S i x x' j u hx hj he, List.getElem?_set] at hm
    by_cases e : i * k + j = m
    · subst e
      rw [if_pos rfl] at hm
      split at hm
      · rename_i hlt
        cases hm
        exact World.cell?_setCell_same _ _ _ (hc _ _ (List.getElem?_eq_getElem hlt))
      · cases hm
    · rw [if_neg e] at hm
      rw [World.cell?_setCell_other]
      · exact hc m v hm
      · intro he'
        simp only [Addr.mk.injEq, true_and, and_true] at he'
        omega
/-- What an own row's cells are, and that they may be stored to. -/
theorem owns_cell {w : World} {v : Value} {base : Nat} {e : TypeId} {α : Type} {enc : α → List Value} {k : Nat} {S : List α} (h : w.ownsRow base e k v S.length (S.flatMap enc)) (hk : ∀ x, (enc x).length = k) (hS : S ≠ []) : ∃ g cap, v = .slice (some ⟨g, 0, none⟩) S.length cap ∧ base ≤ g ∧ g < w.heap.size ∧ S.length ≤ cap ∧ (∀ j, w.frozen? ⟨g, j, none⟩ = false) ∧
    ∀ i x j u, S[i]? = some x → (enc x)[j]? = some u → w.cell? ⟨g, i * k + j, none⟩ = some u := by
  have hsl := SliceIs.of_owns h rfl
  obtain ⟨a, cap0, hv, _, _, hc⟩ := hsl.at hk
  rcases h.2 with ⟨rfl, h0⟩ | ⟨g, cap, cur, rfl, hb, hg, hnc, hcm, hcs, htake⟩
  · exact absurd (List.eq_nil_of_length_eq_zero h0) hS
  · obtain ⟨g', off, ha, _, hlt, hcells⟩ := hc hS
    cases hv
    cases ha
    refine ⟨g, _, rfl, hb, hlt, hnc, fun j => by simp [World.frozen?, hg], fun i x j u hi hj => ?_⟩
    have := hcells i x j u hi hj
    rwa [Nat.zero_add] at this
/-- A cell of an element of an own row is stored. -/
theorem owns_setAt {w : World} {base g n cap : Nat} {e : TypeId} {α : Type} {enc : α → List Value} {k : Nat} {S : List α} (h : w.ownsRow base e k (.slice (some ⟨g, 0, none⟩) n cap) S.length (S.flatMap enc)) (hk : ∀ x, (enc x).length = k) (i : Nat) (x x' : α) (j : Nat) (u : Value)
    (hx : S[i]? = some x) (hj : j < k) (he : enc x' = (enc x).set j u) : (w.setCell ⟨g, i * k + j, none⟩ u).ownsRow base e k (.slice (some ⟨g, 0, none⟩) n cap) (S.set i x').length ((S.set i x').flatMap enc) := by
  rcases h.2 with ⟨hv, _⟩ | ⟨g', cap', cur, hv, hb, hg, hnc, hcm, hcs, htake⟩
  · cases hv
  · cases hv
    refine ⟨by rw [flat_len hk], .inr ⟨g, cap, cur.setIfInBounds (i * k + j) u, by rw [List.length_set], hb, ?_, by rw [List.length_set]; exact hnc, hcm, by simpa using hcs, ?_⟩⟩
    · simp [World.setCell, Array.getElem?_modify, hg]
    · rw [flat_set hk S i x x' j u hx hj he, List.length_set, ← htake]
      simp only [Array.toList_setIfInBounds]
      rw [List.take_set]
end Go.Proofs.Ytcbccogpogdbmaa
