/- PageEvicts, plain: what a Fill takes the place of. -/
import Derived.Test.YtafeemlojlngfaaLq5
namespace Go.Proofs.Ytafeemlojlngfaa
open Go.RowKit Go.Maps Go.Lib Go.Sort
theorem key_one {P : List Pg} (hn : (P.map (·.1)).Nodup) (b : Int) : (P.filter fun x => decide (x.1 = b)).length ≤ 1 := by
  induction P with
  | nil => simp
  | cons p P ih =>
    simp only [List.map_cons, List.nodup_cons] at hn
    have := ih hn.2
    by_cases h : p.1 = b
    · have h0 : P.filter (fun x => decide (x.1 = b)) = [] := by
        rw [List.filter_eq_nil_iff]
        intro a ha
        simp only [decide_eq_true_eq]
        exact fun e => hn.1 (by rw [h, ← e]; exact List.mem_map_of_mem ha)
      rw [List.filter_cons, if_pos (by simpa using h), h0]
      simp
    · rw [List.filter_cons, if_neg (by simpa using h)]
      exact this
def inL (T : List Pg) (x : Pg) : Bool := T.any fun y => decide (y = x)
theorem inL_mem {T : List Pg} {x : Pg} : inL T x = true ↔ x ∈ T := by unfold inL; rw [List.any_eq_true]; simp
theorem inL_not {T : List Pg} {x : Pg} : inL T x = false ↔ x ∉ T := by rw [← inL_mem]; simp
theorem not_cut {P : List Pg} {b : Int} {x : Pg} (hx : x ∈ P) : x ∉ cutP P b ↔ x.1 = b := by
  unfold cutP
  rw [List.mem_filter]
  simp [hx]
theorem last_some {P : List Pg} {q : Pg} (h : lastP P = some q) : ∃ i, P[i]? = some q ∧ q.2.2.2 = 0 ∧ ∀ (m : Nat) (y : Pg), i < m → P[m]? = some y → y.2.2.2 ≠ 0 := by
  unfold lastP at h
  rw [List.find?_eq_some_iff_append] at h
  obtain ⟨hq, l1, bs, hP, has⟩ := h
  have hP2 : P = bs.reverse ++ q :: l1.reverse := by
    have := congrArg List.reverse hP
    rw [List.reverse_reverse] at this
    rw [this]; simp
  refine ⟨bs.length, ?_, by simpa using hq, ?_⟩
  · rw [hP2, List.getElem?_append_right (by simp)]; simp
  · intro m y hm hy
    rw [hP2, List.getElem?_append_right (by simp; omega)] at hy
    obtain ⟨d, hd⟩ : ∃ d, m - bs.reverse.length = d + 1 := ⟨m - bs.length - 1, by simp; omega⟩
    rw [hd, List.getElem?_cons_succ] at hy
    have := has y (List.mem_reverse.1 (List.mem_of_getElem? hy))
    simpa using this
theorem at_uniq {P : List Pg} (hn : (P.map (·.1)).Nodup) {i j : Nat} {x : Pg} (hi : P[i]? = some x) (hj : P[j]? = some x) : i = j := by
  obtain ⟨h1, e1⟩ := List.getElem?_eq_some_iff.1 hi
  obtain ⟨h2, e2⟩ := List.getElem?_eq_some_iff.1 hj
  rw [List.nodup_iff_pairwise_ne, List.pairwise_iff_getElem] at hn
  rcases Nat.lt_trichotomy i j with h | h | h
  · exact absurd (by rw [List.getElem_map, List.getElem_map, e1, e2]) (hn i j (by simpa using h1) (by simpa using h2) h)
  · exact h
  · exact absurd (by rw [List.getElem_map, List.getElem_map, e1, e2]) (hn j i (by simpa using h2) (by simpa using h1) h)
theorem fill_same {n : Nat} {P : List Pg} {p : Pg} (h : (fillP n P p).1 ≠ 0) : (fillP n P p).2 = P := by
  unfold fillP putP at *
  by_cases hb : badPg p (decide (p.2.2.2 = 0)) ≠ 0
  · rw [if_pos hb]
  · rw [if_neg hb] at h ⊢
    cases hf : findP P p.1 with
    | some q =>
      rw [hf] at h
      dsimp only at h ⊢
      by_cases hw : decide (q.2.2.2 = 0 ∧ q.2.1 < p.2.1) = true
      · rw [if_pos hw] at h; simp at h
      · rw [if_neg hw]
    | none =>
      rw [hf] at h
      dsimp only at h ⊢
      by_cases hr : P.length < n
      · rw [if_pos hr] at h; simp at h
      · rw [if_neg hr] at h ⊢
        cases hl : lastP P with
        | none => rfl
        | some q => rw [hl] at h; simp at h
theorem evict_facts {n : Nat} {P : List Pg} {p : Pg} (hn : (P.map (·.1)).Nodup) (he : (fillP n P p).1 = 0) :
    ∃ T : List Pg, (fillP n P p).2 = p :: T ∧ (∀ (i : Nat) (x : Pg), P[i]? = some x → x ∉ T → x.2.2.2 = 0 ∧ (x.1 = p.1 ∨ ∀ (m : Nat) (y : Pg), i < m → P[m]? = some y → y.2.2.2 ≠ 0)) ∧ (P.filter fun x => !inL T x).length ≤ 1 := by
  unfold fillP putP at *
  split at he
  · rename_i hb; exact absurd he hb
  · rename_i hb
    rw [if_neg hb]
    cases hf : findP P p.1 with
    | some q =>
      rw [hf] at he
      dsimp only at he ⊢
      by_cases hw : decide (q.2.2.2 = 0 ∧ q.2.1 < p.2.1) = true
      · rw [if_pos hw]
        refine ⟨cutP P p.1, rfl, ?_, ?_⟩
        · intro i x hx hxT
          have hxm := List.mem_of_getElem? hx
          have hxb := (not_cut hxm).1 hxT
          have hq1 := List.find?_some hf
          simp only [decide_eq_true_eq] at hq1
          have : x = q := inj_once (f := (·.1)) hn hxm (List.mem_of_find?_eq_some hf) (hxb.trans hq1)
          subst this
          simp only [decide_eq_true_eq] at hw
          exact ⟨hw.1, .inl hxb⟩
        · have : P.filter (fun x => !inL (cutP P p.1) x) = P.filter (fun x => decide (x.1 = p.1)) := List.filter_congr fun x hx => by rw [Bool.eq_iff_iff, Bool.not_eq_true', inL_not, decide_eq_true_eq]; exact not_cut hx
          rw [this]; exact key_one hn _
      · rw [if_neg hw] at he; simp at he
    | none =>
      rw [hf] at he
      dsimp only at he ⊢
      by_cases hr : P.length < n
      · rw [if_pos hr]
        refine ⟨P, rfl, ?_, ?_⟩
        · intro i x hx hxT
          exact absurd (List.mem_of_getElem? hx) hxT
        · have : P.filter (fun x => !inL P x) = [] := by
            rw [List.filter_eq_nil_iff]
            intro a ha
            rw [inL_mem.2 ha]; simp
          rw [this]; simp
      · rw [if_neg hr] at he ⊢
        cases hl : lastP P with
        | none => rw [hl] at he; simp at he
        | some q =>
          dsimp only
          obtain ⟨i0, h1, h2, h3⟩ := last_some hl
          refine ⟨cutP P q.1, rfl, ?_, ?_⟩
          · intro i x hx hxT
            have hxm := List.mem_of_getElem? hx
            have hxb := (not_cut hxm).1 hxT
            have : x = q := inj_once (f := (·.1)) hn hxm (List.mem_of_getElem? h1) hxb
            subst this
            have := at_uniq hn hx h1
            subst this
            exact ⟨h2, .inr h3⟩
          · have : P.filter (fun x => !inL (cutP P q.1) x) = P.filter (fun x => decide (x.1 = q.1)) := List.filter_congr fun x hx => by rw [Bool.eq_iff_iff, Bool.not_eq_true', inL_not, decide_eq_true_eq]; exact not_cut hx
            rw [this]; exact key_one hn _
theorem Both.frT {w w' : World} {B M cb bm rg rb n : Nat} {P : List Pg} {b : Nat} {cs : Array Value} {t : TypeId} (h : Both w B M cb bm rg rb n P) (hb : w.heap[b]? = some (.cells cs t (0, 0))) (h1 : t ≠ 63) (h2 : t ≠ 65) (h3 : t ≠ 42) (h4 : t ≠ 56) (hf : Fr [b] w w') : Both w' B M cb bm rg rb n P := by
  obtain ⟨Q, q1, q2, ⟨v, r1, r2⟩, q4⟩ := h
  have hne : b ≠ rb := by
    rintro rfl
    rw [hb] at r1
    injection r1 with r1
    injection r1 with _ ht
    exact h3 ht
  refine ⟨Q, q1, q2.fr hf (fun x hx hm => ?_), ⟨v, hf.keep r1 (by simpa using hne.symm), owns_fr2 r2 hf (fun g hg hm => ?_)⟩, q4⟩
  · simp only [List.mem_singleton] at hm
    subst hm
    exact q2.not_cells hb h1 h2 hx
  · simp only [List.mem_singleton] at hm
    subst hm
    exact owns_apart r2 hb (Ne.symm h4) hg
end Go.Proofs.Ytafeemlojlngfaa
