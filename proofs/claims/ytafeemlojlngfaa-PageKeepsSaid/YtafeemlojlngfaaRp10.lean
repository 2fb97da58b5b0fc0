/- The reference's pages: Dirty, plain. -/
import Derived.Test.YtafeemlojlngfaaRp9
namespace Go.Proofs.Ytafeemlojlngfaa
open Go.RowKit Go.Maps Go.Lib Go.Sort
def stepI (p : Pg) (s : List Pg × Bool) (q : Pg) : List Pg × Bool := if s.2 = false ∧ ltP p q then (s.1 ++ [p] ++ [q], true) else (s.1 ++ [q], s.2)
def finI (p : Pg) (s : List Pg × Bool) : List Pg := if s.2 = true then s.1 else s.1 ++ [p]
theorem fold_done (p : Pg) : ∀ (D N : List Pg), D.foldl (stepI p) (N, true) = (N ++ D, true)
  | [], N => by simp
  | q :: D, N => by
    rw [List.foldl_cons]
    have : stepI p (N, true) q = (N ++ [q], true) := by simp [stepI]
    rw [this, fold_done p D]
    simp
theorem fold_ins (p : Pg) : ∀ (D N : List Pg), finI p (D.foldl (stepI p) (N, false)) = N ++ insP p D
  | [], N => by simp [finI, insP]
  | q :: D, N => by
    rw [List.foldl_cons]
    by_cases h : ltP p q
    · have : stepI p (N, false) q = (N ++ [p] ++ [q], true) := by simp [stepI, h]
      rw [this, fold_done p D]
      simp [finI, insP, h]
    · have : stepI p (N, false) q = (N ++ [q], false) := by simp [stepI, h]
      rw [this, fold_ins p D]
      simp [insP, h]
theorem dirtyP_snoc {P : List Pg} {i : Nat} {x : Pg} {r1 r2 : Int} (h : P[i]? = some x) : dirtyP (P.take (i + 1)) r1 r2 = if inR r1 r2 x.1 = true ∧ x.2.2.2 ≠ 0 then insP x (dirtyP (P.take i) r1 r2) else dirtyP (P.take i) r1 r2 := by
  unfold dirtyP
  rw [List.take_add_one, h, List.filter_append, List.foldl_append]
  by_cases hc : inR r1 r2 x.1 = true ∧ x.2.2.2 ≠ 0
  · rw [if_pos hc]
    simp [hc]
  · rw [if_neg hc]
    have : (inR r1 r2 x.1 && x.2.2.2 != 0) = false := by
      rw [Bool.eq_false_iff]
      intro hh
      simp at hh
      exact hc hh
    simp [this]
def insK (p : Pg) (D : List Pg) (k : Nat) : List Pg × Bool := (D.take k).foldl (stepI p) ([], false)
theorem insK_snoc {p : Pg} {D : List Pg} {k : Nat} {q : Pg} (h : D[k]? = some q) : insK p D (k + 1) = stepI p (insK p D k) q := by
  unfold insK
  rw [List.take_add_one, h, List.foldl_append]
  rfl
theorem insK_all (p : Pg) (D : List Pg) : finI p (insK p D D.length) = insP p D := by
  unfold insK
  rw [List.take_length, fold_ins]
  rfl
theorem insK_len (p : Pg) (D : List Pg) (k : Nat) (hk : k ≤ D.length) : (insK p D k).1.length ≤ k + 1 ∧ ((insK p D k).2 = false → (insK p D k).1.length ≤ k) := by
  induction k with
  | zero => simp [insK]
  | succ k ih =>
    have hlt : k < D.length := by omega
    obtain ⟨i1, i2⟩ := ih (by omega)
    rw [insK_snoc (List.getElem?_eq_getElem hlt)]
    unfold stepI
    split
    · rename_i hc
      have := i2 hc.1
      simp only [List.length_append, List.length_cons, List.length_nil]
      exact ⟨by omega, by simp⟩
    · simp only [List.length_append, List.length_cons, List.length_nil]
      exact ⟨by omega, fun h => by have := i2 h; omega⟩
theorem dirtyP_len (P : List Pg) (r1 r2 : Int) : (dirtyP P r1 r2).length ≤ P.length := by
  rw [(dirtyP_perm P r1 r2).length_eq]
  exact List.length_filter_le _ _
end Go.Proofs.Ytafeemlojlngfaa
