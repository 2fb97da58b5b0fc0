/- Plain laws of lists of alarms. -/
import Derived.Test.YtcnihacjkcicfaaLw1
import Derived.Deep.RegionHeld3
import Derived.Lib.Hide
namespace Go.Proofs.Ytcnihacjkcicfaa
open Go.RowKit Go.Lib Go.Sort Go.Shelf
def Okays (T : List Al) : Prop := ∀ a ∈ T, ¬ badA a
theorem insA_mem (x a : Al) : ∀ T, a ∈ insA x T → a = x ∨ a ∈ T
  | [], h => by simpa [insA] using h
  | b :: T, h => by
    unfold insA at h
    split at h
    · rcases List.mem_cons.1 h with h | h
      · exact .inl h
      · exact .inr h
    · rcases List.mem_cons.1 h with h | h
      · exact .inr (by simp [h])
      · rcases insA_mem x a T h with h | h
        · exact .inl h
        · exact .inr (by simp [h])
theorem Okays.set {T : List Al} (h : Okays T) (x : Al) : Okays (setT T x).2 := by
  unfold setT
  split
  · exact h
  · split
    · exact h
    · intro a ha
      rcases insA_mem _ _ _ ha with rfl | ha
      · assumption
      · exact h a (List.mem_filter.1 ha).1
theorem Okays.filter {T : List Al} (h : Okays T) (p : Al → Bool) : Okays (T.filter p) := fun a ha => h a (List.mem_filter.1 ha).1
theorem TimersAt.keys {w : World} {tb bm : Nat} {T : List Al} (h : TimersAt w tb bm T) : (T.map keyOf).Nodup := by
  obtain ⟨_, _, ⟨L, hm, hp⟩, _, _⟩ := h
  have h1 : ((L.map toAl).map keyOf).Nodup := by
    rw [List.map_map]
    exact hm.once
  exact (hp.map keyOf).nodup_iff.1 h1
def cntN (n : Int) (T : List Al) : Nat := (T.filter fun a => decide (a.1 = n)).length
def hasNT (n t : Int) (T : List Al) : Bool := T.any fun a => decide (a.1 = n ∧ a.2.2 = t)
theorem hasNT_stop (n t : Int) (T : List Al) : ((T.filter fun a => decide (a.1 = n ∧ a.2.2 = t)) = []) ↔ hasNT n t T = false := by
  unfold hasNT
  rw [List.filter_eq_nil_iff, List.any_eq_false]
theorem cntN_le (n : Int) (T : List Al) : cntN n T ≤ T.length := List.length_filter_le _ _
theorem cnt_not (n t : Int) {T : List Al} (h : hasNT n t T = false) : (T.filter fun a => !decide (a.1 = n ∧ a.2.2 = t)) = T := by
  rw [List.filter_eq_self]
  intro a ha
  have := List.any_eq_false.1 h a ha
  cases hd : decide (a.1 = n ∧ a.2.2 = t) with
  | true => exact absurd hd this
  | false => rfl
theorem cnt_has (n t : Int) : ∀ {T : List Al}, (T.map keyOf).Nodup → hasNT n t T = true → cntN n (T.filter fun a => !decide (a.1 = n ∧ a.2.2 = t)) + 1 = cntN n T
  | [], _, h => by simp [hasNT] at h
  | a :: T, hn, h => by
    rw [List.map_cons, List.nodup_cons] at hn
    by_cases ha : a.1 = n ∧ a.2.2 = t
    · have h2 : hasNT n t T = false := by
        unfold hasNT
        rw [List.any_eq_false]
        intro b hb hd
        simp only [decide_eq_true_eq] at hd
        exact hn.1 (List.mem_map.2 ⟨b, hb, by unfold keyOf; rw [hd.1, hd.2, ha.1, ha.2]⟩)
      rw [List.filter_cons, show (!decide (a.1 = n ∧ a.2.2 = t)) = false from by simp [ha], if_neg (by simp), cnt_not n t h2]
      unfold cntN
      rw [List.filter_cons, if_pos (by simp [ha.1])]
      simp
    · have h2 : hasNT n t T = true := by
        unfold hasNT at h ⊢
        rw [List.any_cons, show decide (a.1 = n ∧ a.2.2 = t) = false from by simpa using ha] at h
        simpa using h
      have ih := cnt_has n t hn.2 h2
      rw [List.filter_cons, show (!decide (a.1 = n ∧ a.2.2 = t)) = true from by simp only [Bool.not_eq_true', decide_eq_false_iff_not]; exact ha, if_pos rfl]
      unfold cntN at ih ⊢
      rw [List.filter_cons, List.filter_cons]
      split
      · simp only [List.length_cons]; omega
      · exact ih
theorem cut_cut (n t : Int) (T : List Al) : (T.filter fun a => !decide (a.1 = n ∧ a.2.2 = t)).filter (fun a => !decide (a.1 = n)) = T.filter fun a => !decide (a.1 = n) := by
  rw [List.filter_filter]
  apply List.filter_congr
  intro a _
  by_cases h : a.1 = n <;> simp [h]
theorem cnt_rest (n : Int) : ∀ (T : List Al), (T.filter fun a => !decide (a.1 = n)).length + cntN n T = T.length
  | [] => rfl
  | a :: T => by
    have := cnt_rest n T
    unfold cntN at this ⊢
    rw [List.filter_cons, List.filter_cons]
    by_cases h : a.1 = n
    · simp only [h, decide_true, Bool.not_true, Bool.false_eq_true, if_false, if_true, List.length_cons]; omega
    · simp only [h, decide_false, Bool.not_false, Bool.false_eq_true, if_false, if_true, List.length_cons]; omega
def noN (n : Int) (T : List Al) : Prop := ∀ a ∈ T, a.1 ≠ n
theorem noN_rest (n : Int) (T : List Al) : noN n (T.filter fun a => !decide (a.1 = n)) := fun a ha => by have := (List.mem_filter.1 ha).2; simpa using this
theorem noN_filter {n : Int} {T : List Al} (h : noN n T) (p : Al → Bool) (hp : ∀ a, p a = true → a.1 = n) : T.filter p = [] := by
  rw [List.filter_eq_nil_iff]; exact fun a ha hpa => h a ha (hp a hpa)
theorem noN_keep {n : Int} {T : List Al} (h : noN n T) (p : Al → Bool) (hp : ∀ a, p a = true → a.1 = n) : (T.filter fun a => !p a) = T := by
  rw [List.filter_eq_self]
  intro a ha
  cases hd : p a with
  | false => rfl
  | true => exact absurd (hp a hd) (h a ha)
theorem upto_step {T : List Al} (hT : Okays T) (c : Int) : ((T.filter fun a => !decide (a.1 < c)).filter fun a => !decide (a.1 = c ∧ a.2.1 ≤ 1099511627776)) = T.filter fun a => !decide (a.1 < c + 1) := by
  rw [List.filter_filter]
  apply List.filter_congr
  intro a ha
  have := hT a ha
  unfold badA at this
  rw [Bool.eq_iff_iff]
  simp
  omega
theorem upto_len (c : Int) : ∀ {T : List Al}, Okays T → ((T.filter fun a => decide (a.1 < c)).length + ((T.filter fun a => !decide (a.1 < c)).filter fun a => decide (a.1 = c ∧ a.2.1 ≤ 1099511627776)).length) = (T.filter fun a => decide (a.1 < c + 1)).length
  | [], _ => rfl
  | a :: T, hT => by
    have ih := upto_len c (T := T) (fun b hb => hT b (by simp [hb]))
    have ha := hT a (by simp)
    unfold badA at ha
    by_cases h1 : a.1 < c
    · have h2 : a.1 < c + 1 := by omega
      simp only [List.filter_cons, h1, h2, decide_true, Bool.not_true, Bool.false_eq_true, if_false, if_true, List.length_cons]
      omega
    · by_cases h2 : a.1 < c + 1
      · have h3 : a.1 = c ∧ a.2.1 ≤ 1099511627776 := by omega
        have d3 := decide_eq_true h3
        have d1 := decide_eq_false h1
        have d2 := decide_eq_true h2
        simp only [List.filter_cons, d1, d2, d3, Bool.not_false, Bool.false_eq_true, if_false, if_true, List.length_cons]
        omega
      · have h3 : ¬ (a.1 = c ∧ a.2.1 ≤ 1099511627776) := by omega
        simp only [List.filter_cons, h1, h2, h3, decide_false, Bool.not_false, Bool.false_eq_true, if_false, if_true]
        omega
theorem upto_all {T : List Al} (hT : Okays T) : (T.filter fun a => decide (a.1 < 8)) = T ∧ (T.filter fun a => !decide (a.1 < 8)) = [] ∧ (T.filter fun a => decide (a.1 < 0)) = [] ∧ (T.filter fun a => !decide (a.1 < 0)) = T := by
  refine ⟨?_, ?_, ?_, ?_⟩
  · rw [List.filter_eq_self]; intro a ha; have := hT a ha; unfold badA at this; simp; omega
  · rw [List.filter_eq_nil_iff]; intro a ha; have := hT a ha; unfold badA at this; simp; omega
  · rw [List.filter_eq_nil_iff]; intro a ha; have := hT a ha; unfold badA at this; simp; omega
  · rw [List.filter_eq_self]; intro a ha; have := hT a ha; unfold badA at this; simp; omega
end Go.Proofs.Ytcnihacjkcicfaa
