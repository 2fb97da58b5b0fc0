/- Timers (chapter 6): the plain part: lists of alarms, no Go. -/
import Derived.Test.YtcnihacjkcicfaaTm1
import Derived.Sort.LotA
namespace Go.Proofs.Ytcnihacjkcicfaa
open Go.Lib Go.Sort

def ltA (a b : Al) : Prop := a.1 < b.1 ∨ a.1 = b.1 ∧ (a.2.1 < b.2.1 ∨ a.2.1 = b.2.1 ∧ a.2.2 < b.2.2)
instance (a b : Al) : Decidable (ltA a b) := by unfold ltA; exact inferInstance
def Srt (S : List Al) : Prop := S.Pairwise ltA
def keyOf (a : Al) : Int × Int := (a.1, a.2.2)

theorem cmp_cases (x y : Int) : (compareInt x y = -1 ∧ x < y) ∨ (compareInt x y = 0 ∧ x = y) ∨ (compareInt x y = 1 ∧ y < x) := by
  unfold compareInt
  by_cases h1 : x < y
  · left; simp [h1]
  · by_cases h2 : x > y
    · right; right; simp [h1, h2]
    · right; left; simp [h1, h2]; omega
theorem cfA_neg (a b : Al) : cfA a b < 0 ↔ ltA a b := by
  obtain ⟨a1, a2, a3⟩ := a
  obtain ⟨b1, b2, b3⟩ := b
  simp only [cfA, or3, ltA]
  rcases cmp_cases a1 b1 with ⟨h, g⟩ | ⟨h, g⟩ | ⟨h, g⟩ <;> rcases cmp_cases a2 b2 with ⟨h', g'⟩ | ⟨h', g'⟩ | ⟨h', g'⟩ <;> rcases cmp_cases a3 b3 with ⟨h'', g''⟩ | ⟨h'', g''⟩ | ⟨h'', g''⟩ <;> rw [h, h', h''] <;> simp <;> omega
theorem ltOf_cfA (a b : Al) : ltOf cfA a b = decide (ltA a b) := by
  unfold ltOf
  by_cases h : ltA a b
  · simp [h, (cfA_neg a b).2 h]
  · have : ¬ cfA a b < 0 := fun q => h ((cfA_neg a b).1 q)
    simp [h]; omega
theorem swoA : SWO (ltOf cfA) where
  irrefl x := by rw [ltOf_cfA]; simp [ltA]
  trans x y z h1 h2 := by simp only [ltOf_cfA, decide_eq_true_eq] at *; unfold ltA at *; omega
  ntrans x y z h1 h2 := by simp only [ltOf_cfA, decide_eq_false_iff_not] at *; unfold ltA at *; omega
theorem totA (x y : Al) (h1 : ltOf cfA x y = false) (h2 : ltOf cfA y x = false) : x = y := by
  simp only [ltOf_cfA, decide_eq_false_iff_not] at *; unfold ltA at *
  obtain ⟨x1, x2, x3⟩ := x
  obtain ⟨y1, y2, y3⟩ := y
  simp only at h1 h2
  simp only [Prod.mk.injEq]; omega

theorem srt_eq {S T : List Al} (hS : Srt S) (hT : Srt T) (h : S.Perm T) : S = T := by
  refine List.Perm.eq_of_pairwise (le := ltA) ?_ hS hT h
  intro a b _ _ h1 h2
  simp only [ltA] at h1 h2; omega
/-- The one sorted list of some alarms that part. -/
theorem sorted_is {S T : List Al} (hS : Srt S) (h : T.Perm S) : T.mergeSort (fun x y => !ltOf cfA y x) = S := by
  have h1 : (T.mergeSort (fun x y => !ltOf cfA y x)).Perm S := (List.mergeSort_perm _ _).trans h
  refine List.Perm.eq_of_pairwise (le := fun x y => (!ltOf cfA y x) = true) ?_ ?_ ?_ h1
  · intro a b _ _ h1 h2
    simp only [Bool.not_eq_true'] at h1 h2
    exact totA a b h2 h1
  · refine List.pairwise_mergeSort ?_ ?_ T
    · intro a b c h1 h2
      simp only [Bool.not_eq_true'] at *
      exact swoA.ntrans _ _ _ h2 h1
    · intro a b
      simp only [ltOf_cfA, Bool.or_eq_true, Bool.not_eq_true', decide_eq_false_iff_not]; unfold ltA; omega
  · refine hS.imp ?_
    intro a b h
    simp only [ltOf_cfA, Bool.not_eq_true', decide_eq_false_iff_not]
    simp only [ltA] at *; omega

/-- What a range that is under way has come by. -/
def got (p : Al → Bool) (L : List ((Int × Int) × Int)) (left : Int × Int → Bool) (acc : List Al) : Prop := acc.Perm (((L.filter fun e => !left e.1).map toAl).filter p)

theorem filter_add {L : List ((Int × Int) × Int)} {left : Int × Int → Bool} {y : Int × Int} {u : Int} (hn : (L.map (·.1)).Nodup) (hy : (y, u) ∈ L) (hl : left y = true) :
    (L.filter fun e => !(left e.1 && decide (e.1 ≠ y))).Perm ((L.filter fun e => !left e.1) ++ [(y, u)]) ∧ (L.filter fun e => left e.1 && decide (e.1 ≠ y)).length < (L.filter fun e => left e.1).length := by
  induction L with
  | nil => simp at hy
  | cons e L ih =>
    simp only [List.map_cons, List.nodup_cons] at hn
    rcases List.mem_cons.1 hy with rfl | hy'
    · have hne : ∀ q ∈ L, q.1 ≠ y := fun q hq e => hn.1 (List.mem_map.2 ⟨q, hq, e⟩)
      have e1 : L.filter (fun e => !(left e.1 && decide (e.1 ≠ y))) = L.filter (fun e => !left e.1) := List.filter_congr fun q hq => by simp [hne q hq]
      have e2 : L.filter (fun e => left e.1 && decide (e.1 ≠ y)) = L.filter (fun e => left e.1) := List.filter_congr fun q hq => by simp [hne q hq]
      refine ⟨?_, ?_⟩
      · simp only [List.filter_cons, hl, ne_eq, not_true_eq_false, decide_false, Bool.and_false, Bool.not_false, if_true, Bool.not_true, Bool.false_eq_true, if_false]
        have e1' := e1; simp only [ne_eq] at e1'; rw [e1']
        exact (List.perm_append_singleton _ _).symm
      · simp only [List.filter_cons, hl, ne_eq, not_true_eq_false, decide_false, Bool.and_false, Bool.false_eq_true, if_false, if_true]
        have e2' := e2; simp only [ne_eq] at e2'; rw [e2']
        simp
    · have hne : e.1 ≠ y := fun h => hn.1 (List.mem_map.2 ⟨(y, u), hy', h.symm⟩)
      obtain ⟨i1, i2⟩ := ih hn.2 hy'
      refine ⟨?_, ?_⟩
      · simp only [List.filter_cons]
        simp only [ne_eq, hne, not_false_eq_true, decide_true, Bool.and_true]
        split
        · exact List.Perm.cons _ i1
        · exact i1
      · simp only [List.filter_cons]
        simp only [ne_eq, hne, not_false_eq_true, decide_true, Bool.and_true]
        split
        · simpa using i2
        · exact i2

theorem got_step {p : Al → Bool} {L : List ((Int × Int) × Int)} {left : Int × Int → Bool} {acc : List Al} {y1 y2 u : Int} (hn : (L.map (·.1)).Nodup) (hy : ((y1, y2), u) ∈ L) (hl : left (y1, y2) = true) (hg : got p L left acc) :
    got p L (fun z => left z && decide (z ≠ (y1, y2))) (if p (y1, u, y2) = true then acc ++ [(y1, u, y2)] else acc) := by
  unfold got at *
  have h := ((filter_add hn hy hl).1.map toAl).filter p
  refine List.Perm.trans ?_ h.symm
  rw [List.map_append, List.filter_append]
  by_cases hp : p (y1, u, y2) = true
  · rw [if_pos hp]
    refine hg.append ?_
    simp [toAl, hp]
  · rw [if_neg hp]
    have : [((y1, y2), u)].map toAl = [(y1, u, y2)] := rfl
    rw [this, List.filter_cons_of_neg hp, List.filter_nil, List.append_nil]
    exact hg
theorem got_end {p : Al → Bool} {L : List ((Int × Int) × Int)} {left : Int × Int → Bool} {acc : List Al} (h : ∀ e ∈ L, left e.1 = false) (hg : got p L left acc) : acc.Perm ((L.map toAl).filter p) := by
  unfold got at hg
  have e1 : L.filter (fun e => !left e.1) = L := List.filter_eq_self.2 (fun e he => by rw [h e he]; rfl)
  rwa [e1] at hg
theorem got_len {p : Al → Bool} {L : List ((Int × Int) × Int)} {left : Int × Int → Bool} {acc : List Al} (hg : got p L left acc) : acc.length ≤ L.length := by
  have h1 := hg.length_eq
  have h2 := List.length_filter_le p ((L.filter fun e => !left e.1).map toAl)
  have h3 := List.length_filter_le (fun e : (Int × Int) × Int => !left e.1) L
  simp only [List.length_map] at h2
  omega
end Go.Proofs.Ytcnihacjkcicfaa
