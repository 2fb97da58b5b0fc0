/- Contracts and words, several texts in one. -/
import Derived.Test.YthhpamaeibjpaaaDoorZx3
import Derived.Test.YthhpamaeibjpaaaDoorZx20
section
namespace Go.Proofs.YthhpamaeibjpaaaDoor
set_option linter.unusedVariables false
theorem after_ep (L : List Ord) : ∀ i, (afterP L i).ep ≤ i + 1
  | 0 => by show (1 : Int) ≤ _; omega
  | i + 1 => by
    by_cases h : i < L.length
    · rw [after_step (List.getElem?_eq_getElem h)]
      have := after_ep L i
      unfold stepA
      split
      · rename_i e
        rw [(apply_ok e).2.2.1]; omega
      · omega
    · have : afterP L (i + 1) = afterP L i := by unfold afterP; rw [List.take_of_length_le (by omega), List.take_of_length_le (by omega)]
      rw [this]
      have := after_ep L i
      omega
theorem tables_law {c : Cfg} (ho : okC c = true) (he : c.ep ≤ 100) (n : Int) : applyP c (4, n, 0, 0, 0) = if n < 1 ∨ 8 < n then (zeroCfg, 1) else (⟨c.ep + 1, c.sv, c.pt, n⟩, 0) := by
  rw [apply_do _ ho (by omega) (by dsimp only; omega)]
  unfold doP
  dsimp only
  rw [if_neg (show ¬ (4 : Int) = 1 by decide), if_neg (show ¬ (4 : Int) = 2 by decide), if_neg (show ¬ (4 : Int) = 3 by decide)]
  unfold tablesP
  by_cases h : n < 1 ∨ 8 < n
  · rw [if_pos h, if_pos h]; rfl
  · rw [if_neg h, if_neg h]; rfl
theorem table_mod {c : Cfg} {n a : Int} (hc : c.tb = n) (hn : 1 ≤ n) (ha : 0 ≤ a) : tableP c a = Int.tmod a n := by
  unfold tableP
  rw [hc, if_neg (by omega)]
  split
  · have : a = 0 := by omega
    subst this; simp
  · rfl
theorem table_neg (c : Cfg) : tableP c (-4) = 0 := by
  unfold tableP; split
  · rfl
  · rw [if_pos (by omega)]
end Go.Proofs.YthhpamaeibjpaaaDoor
end
