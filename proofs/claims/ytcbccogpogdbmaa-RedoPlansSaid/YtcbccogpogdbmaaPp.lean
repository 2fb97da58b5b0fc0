/- Plans, in plain words. -/
import Derived.Test.YtcbccogpogdbmaaRowR
namespace Go.Proofs.Ytcbccogpogdbmaa
abbrev Blk := Int × Int × ByteArray
def verP : List Blk → Int → Int
  | [], _ => 0
  | x :: l, b => if x.1 = b then x.2.1 else verP l b
def setV (V : Int → Int) (r : Rec) : Int → Int := fun b => if b = r.2.1 then r.2.2.1 else V b
def updV (V : Int → Int) : List Rec → Int → Int
  | [] => V
  | r :: p => updV (setV V r) p
def planF (V : Int → Int) : List Rec → List Rec
  | [] => []
  | r :: l => if V r.2.1 < r.2.2.1 then r :: planF (setV V r) l else planF V l
theorem ver_cons (x : Blk) (l : List Blk) (b : Int) : verP (x :: l) b = if x.1 = b then x.2.1 else verP l b := rfl
theorem setV_at (V : Int → Int) (r : Rec) (b : Int) : setV V r b = if b = r.2.1 then r.2.2.1 else V b := rfl
theorem upd_snoc : ∀ (p : List Rec) (V : Int → Int) (r : Rec), updV V (p ++ [r]) = setV (updV V p) r
  | [], V, r => rfl
  | q :: p, V, r => by rw [List.cons_append, updV, upd_snoc p, updV]
theorem plan_snoc : ∀ (l : List Rec) (V : Int → Int) (r : Rec), planF V (l ++ [r]) = planF V l ++ (if updV V (planF V l) r.2.1 < r.2.2.1 then [r] else [])
  | [], V, r => by
    simp only [List.nil_append, planF, updV]
  | q :: l, V, r => by
    rw [List.cons_append, planF, planF]
    split
    · rw [plan_snoc l, List.cons_append, updV]
    · exact plan_snoc l V r
theorem plan_inc : ∀ (l : List Rec) (V : Int → Int) (k : Nat) (r : Rec), (planF V l)[k]? = some r → updV V ((planF V l).take k) r.2.1 < r.2.2.1
  | [], V, k, r, h => by simp [planF] at h
  | q :: l, V, k, r, h => by
    rw [planF] at h ⊢
    split at h
    · rename_i hq
      rw [if_pos hq]
      cases k with
      | zero =>
        simp only [List.getElem?_cons_zero, Option.some.injEq] at h
        subst h
        simpa [updV] using hq
      | succ k =>
        simp only [List.getElem?_cons_succ] at h
        rw [List.take_succ_cons, updV]
        exact plan_inc l _ k r h
    · rename_i hq
      rw [if_neg hq]
      exact plan_inc l V k r h
theorem plan_ge : ∀ (l : List Rec) (V : Int → Int) (k : Nat) (b : Int), V b ≤ updV V ((planF V l).take k) b
  | [], V, k, b => by simp [planF, updV]
  | q :: l, V, k, b => by
    rw [planF]
    split
    · rename_i hq
      cases k with
      | zero => simp [updV]
      | succ k =>
        rw [List.take_succ_cons, updV]
        have := plan_ge l (setV V q) k b
        refine Int.le_trans ?_ this
        unfold setV
        split
        · rename_i hb
          rw [hb]; omega
        · exact Int.le_refl _
    · exact plan_ge l V k b
theorem plan_rest : ∀ (l : List Rec) (V : Int → Int) (k : Nat), planF (updV V ((planF V l).take k)) l = (planF V l).drop k
  | [], V, k => by simp [planF]
  | q :: l, V, k => by
    by_cases hq : V q.2.1 < q.2.2.1
    · have e : planF V (q :: l) = q :: planF (setV V q) l := by rw [planF, if_pos hq]
      rw [e]
      cases k with
      | zero => rw [List.take_zero, List.drop_zero, updV, e]
      | succ k =>
        rw [List.take_succ_cons, updV, List.drop_succ_cons, planF, if_neg, plan_rest l]
        have := plan_ge l (setV V q) k q.2.1
        unfold setV at this
        rw [if_pos rfl] at this
        exact Int.not_lt.2 this
    · have e : planF V (q :: l) = planF V l := by rw [planF, if_neg hq]
      rw [e, planF, if_neg, plan_rest l]
      have := plan_ge l V k q.2.1
      omega
theorem plan_len : ∀ (l : List Rec) (V : Int → Int), (planF V l).length ≤ l.length
  | [], V => by simp [planF]
  | q :: l, V => by
    rw [planF]
    split
    · have := plan_len l (setV V q)
      simp only [List.length_cons]
      omega
    · have := plan_len l V
      simp only [List.length_cons]
      omega
def blkOf (r : Rec) : Blk := (r.2.1, r.2.2.1, r.2.2.2)
theorem ver_done (has : List Blk) : ∀ (p : List Rec), verP (p.reverse.map blkOf ++ has) = updV (verP has) p := by
  intro p
  have key : ∀ (n : Nat) (p : List Rec), p.length = n → verP (p.reverse.map blkOf ++ has) = updV (verP has) p := by
    intro n
    induction n with
    | zero =>
      intro p hp
      obtain rfl := List.length_eq_zero_iff.1 hp
      rfl
    | succ n ih =>
      intro p hp
      have hne : p ≠ [] := by intro h; rw [h] at hp; simp at hp
      have e := List.dropLast_concat_getLast hne
      rw [← e, upd_snoc, List.reverse_append]
      simp only [List.reverse_cons, List.reverse_nil, List.nil_append, List.map_cons, List.cons_append]
      funext b
      rw [ver_cons, setV_at, ih p.dropLast (by rw [List.length_dropLast, hp]; rfl)]
      obtain ⟨q, hq⟩ : ∃ q, q = p.getLast hne := ⟨_, rfl⟩
      rw [← hq]
      by_cases hb : q.2.1 = b
      · rw [if_pos (show (blkOf q).1 = b from hb), if_pos hb.symm]
        rfl
      · rw [if_neg (show ¬ (blkOf q).1 = b from hb), if_neg (fun h => hb h.symm)]
  exact key p.length p rfl
open Go.Maps in
theorem look_upsert {α β : Type} [DecidableEq α] (L : List (α × β)) (a : α) (v : β) (b : α) : look (upsert L a v) b = if b = a then some v else look L b := by
  unfold upsert
  by_cases hany : (L.any fun p => decide (a = p.1)) = true
  · rw [if_pos hany]
    have key : ∀ (L : List (α × β)), look (L.map fun p => if a = p.1 then (a, v) else p) b = if b = a then (if (L.any fun p => decide (a = p.1)) = true then some v else none) else look L b := by
      intro L
      induction L with
      | nil => simp [look]
      | cons p L ih =>
        unfold look at ih ⊢
        simp only [List.map_cons, List.find?_cons, List.any_cons]
        by_cases h1 : a = p.1
        · rw [if_pos h1]
          by_cases h2 : b = a
          · simp [h2, h1]
          · have h3 : ¬ b = p.1 := fun h => h2 (h.trans h1.symm)
            simp only [h2, h3, decide_false, if_false] at ih ⊢
            exact ih
        · rw [if_neg h1]
          by_cases h4 : b = p.1
          · have h2 : ¬ b = a := fun h => h1 (h.symm.trans h4)
            simp [h4]
            intro h5
            exact absurd h5.symm h1
          · simp only [h4, decide_false, h1, Bool.false_or]
            exact ih
    rw [key L]
    simp [hany]
  · rw [if_neg hany]
    unfold look
    rw [List.find?_append]
    have hno : L.find? (fun p => decide (a = p.1)) = none := List.find?_eq_none.2 (fun p hp h => hany (List.any_eq_true.2 ⟨p, hp, h⟩))
    by_cases h2 : b = a
    · subst h2
      simp [hno]
    · simp only [List.find?_cons, h2, decide_false, List.find?_nil, Option.or_none, if_false]
end Go.Proofs.Ytcbccogpogdbmaa
