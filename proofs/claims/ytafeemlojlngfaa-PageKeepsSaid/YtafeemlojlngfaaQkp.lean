/- PageKeeps, plain: what is dirty, behind each call. -/
import Derived.Test.YtafeemlojlngfaaQdtp
import Derived.Test.YtafeemlojlngfaaQevp
namespace Go.Proofs.Ytafeemlojlngfaa
open Go.RowKit Go.Maps Go.Lib Go.Sort
def dz (P : List Pg) : List Pg := P.filter fun p => p.2.2.2 != 0
theorem dirty_len {P : List Pg} (h : InS P) : (dirtyP P 0 256).length = (dz P).length := by
  rw [(dirtyP_perm P 0 256).length_eq]
  unfold dz
  congr 1
  refine List.filter_congr fun x hx => ?_
  have := h x hx
  have h0 : inR 0 256 x.1 = true := by unfold inR; simp only [decide_eq_true_eq]; exact this
  rw [h0]; simp
theorem dz_cut (P : List Pg) (b : Int) : dz (cutP P b) = (dz P).filter fun p => decide (p.1 ≠ b) := by
  unfold dz cutP
  rw [List.filter_filter, List.filter_filter]
  exact List.filter_congr fun x _ => Bool.and_comm _ _
/-- A clean page goes: nothing that is dirty. -/
theorem dz_gone {P : List Pg} (hn : (P.map (·.1)).Nodup) {q : Pg} (hq : q ∈ P) (h0 : q.2.2.2 = 0) : dz (cutP P q.1) = dz P := by
  rw [dz_cut]
  refine List.filter_eq_self.2 fun x hx => ?_
  unfold dz at hx
  obtain ⟨hx1, hx2⟩ := List.mem_filter.1 hx
  rw [decide_eq_true_eq]
  intro e
  have : x = q := inj_once (f := (·.1)) hn hx1 hq e
  subst this
  simp [h0] at hx2
theorem cut_perm {P : List Pg} (hn : (P.map (·.1)).Nodup) {q : Pg} (hq : q ∈ P) : P.Perm (q :: cutP P q.1) := by
  induction P with
  | nil => simp at hq
  | cons p P ih =>
    simp only [List.map_cons, List.nodup_cons] at hn
    rcases List.mem_cons.1 hq with rfl | hq
    · have : cutP (q :: P) q.1 = P := by
        unfold cutP
        rw [List.filter_cons, if_neg (by simp)]
        exact List.filter_eq_self.2 fun x hx => by
          rw [decide_eq_true_eq]
          exact fun e => hn.1 (by rw [← e]; exact List.mem_map_of_mem hx)
      rw [this]
    · have hne : p.1 ≠ q.1 := fun e => hn.1 (by rw [e]; exact List.mem_map_of_mem hq)
      have : cutP (p :: P) q.1 = p :: cutP P q.1 := by
        unfold cutP
        rw [List.filter_cons, if_pos (by simpa using hne)]
      rw [this]
      exact ((ih hn.2 hq).cons p).trans (List.Perm.swap q p _)
theorem find_mem {P : List Pg} {b : Int} {q : Pg} (h : findP P b = some q) : q ∈ P ∧ q.1 = b := by
  have h1 := List.find?_some h
  simp only [decide_eq_true_eq] at h1
  exact ⟨List.mem_of_find?_eq_some h, h1.symm⟩
theorem last_mem {P : List Pg} {q : Pg} (h : lastP P = some q) : q ∈ P ∧ q.2.2.2 = 0 := by
  have h1 := List.find?_some h
  exact ⟨List.mem_reverse.1 (List.mem_of_find?_eq_some h), by simpa using h1⟩
theorem dz_get {P : List Pg} (hn : (P.map (·.1)).Nodup) (b : Int) : (dz P).Perm (dz (getP P b).2) := by
  unfold getP
  cases hf : findP P b with
  | none => exact List.Perm.refl _
  | some q =>
    obtain ⟨h1, h2⟩ := find_mem hf
    subst h2
    exact (cut_perm hn h1).filter _
theorem dz_fill {n : Nat} {P : List Pg} {p : Pg} (hn : (P.map (·.1)).Nodup) : dz (fillP n P p).2 = dz P := by
  by_cases he : (fillP n P p).1 = 0
  · unfold fillP putP at *
    split at he
    · rename_i hb; exact absurd he hb
    · rename_i hb
      rw [if_neg hb]
      have hs : p.2.2.2 = 0 := by
        refine Decidable.byContradiction fun h => ?_
        have hb0 : badPg p (decide (p.2.2.2 = 0)) = 0 := Decidable.byContradiction fun hh => hb hh
        have := badPg_ok hb0
        simp [h] at this
      have hd : ∀ L, dz (p :: L) = dz L := fun L => by unfold dz; rw [List.filter_cons, if_neg (by simp [hs])]
      cases hf : findP P p.1 with
      | some q =>
        rw [hf] at he
        dsimp only at he ⊢
        obtain ⟨h1, h2⟩ := find_mem hf
        by_cases hw : decide (q.2.2.2 = 0 ∧ q.2.1 < p.2.1) = true
        · rw [if_pos hw, hd]
          simp only [decide_eq_true_eq] at hw
          rw [← h2]
          exact dz_gone hn h1 hw.1
        · rw [if_neg hw] at he; simp at he
      | none =>
        rw [hf] at he
        dsimp only at he ⊢
        by_cases hr : P.length < n
        · rw [if_pos hr, hd]
        · rw [if_neg hr] at he ⊢
          cases hl : lastP P with
          | none => simp [hl] at he
          | some q =>
            dsimp only
            obtain ⟨h1, h2⟩ := last_mem hl
            rw [hd]
            exact dz_gone hn h1 h2
  · rw [fill_same he]
theorem dz_set {n : Nat} {P : List Pg} {p : Pg} (hn : (P.map (·.1)).Nodup) : ((setP n P p).1 = 0 ∧ dz (setP n P p).2 = p :: (dz P).filter fun x => decide (x.1 ≠ p.1)) ∨ ((setP n P p).1 ≠ 0 ∧ (setP n P p).2 = P) := by
  unfold setP putP
  by_cases hb : badPg p (decide (1 ≤ p.2.2.2 ∧ p.2.2.2 ≤ 1099511627776)) ≠ 0
  · rw [if_pos hb]; exact .inr ⟨hb, rfl⟩
  · rw [if_neg hb]
    have hb0 : badPg p (decide (1 ≤ p.2.2.2 ∧ p.2.2.2 ≤ 1099511627776)) = 0 := Decidable.byContradiction fun hh => hb hh
    have hs : p.2.2.2 ≠ 0 := by
      have := badPg_ok hb0
      intro h
      simp [h] at this
    have hd : ∀ L, dz (p :: L) = p :: dz L := fun L => by unfold dz; rw [List.filter_cons, if_pos (by simpa using hs)]
    have hself : findP P p.1 = none → (dz P).filter (fun x => decide (x.1 ≠ p.1)) = dz P := fun hf => by
      refine List.filter_eq_self.2 fun x hx => ?_
      unfold dz at hx
      have := List.find?_eq_none.1 hf x (List.mem_filter.1 hx).1
      simp only [decide_eq_true_eq] at this ⊢
      exact fun e => this e.symm
    cases hf : findP P p.1 with
    | some q =>
      dsimp only
      by_cases hw : decide (q.2.1 < p.2.1) = true
      · rw [if_pos hw]
        exact .inl ⟨rfl, by rw [hd, dz_cut]⟩
      · rw [if_neg hw]; exact .inr ⟨by simp, rfl⟩
    | none =>
      dsimp only
      by_cases hr : P.length < n
      · rw [if_pos hr]
        exact .inl ⟨rfl, by rw [hd, hself hf]⟩
      · rw [if_neg hr]
        cases hl : lastP P with
        | none => exact .inr ⟨by simp, rfl⟩
        | some q =>
          obtain ⟨h1, h2⟩ := last_mem hl
          exact .inl ⟨rfl, by rw [hd, hself hf, dz_gone hn h1 h2]⟩
theorem dz_clean {P : List Pg} (hn : (P.map (·.1)).Nodup) (b t : Int) : ((cleanP P b t).1 = 0 ∧ dz (cleanP P b t).2 = (dz P).filter fun x => decide (x.1 ≠ b)) ∨ ((cleanP P b t).1 ≠ 0 ∧ (cleanP P b t).2 = P) := by
  unfold cleanP
  cases hf : findP P b with
  | none => exact .inr ⟨by simp, rfl⟩
  | some q =>
    dsimp only
    split
    · exact .inr ⟨by simp, rfl⟩
    · split
      · exact .inr ⟨by simp, rfl⟩
      · refine .inl ⟨rfl, ?_⟩
        unfold dz
        dsimp only
        induction P with
        | nil => rfl
        | cons p P ih =>
          clear ih
          generalize p :: P = L
          induction L with
          | nil => rfl
          | cons x L ih =>
            rw [List.map_cons, List.filter_cons, List.filter_cons, ih]
            by_cases hx : x.1 = b
            · rw [if_pos hx, if_neg (by simp)]
              by_cases h0 : x.2.2.2 = 0
              · rw [if_neg (by simpa using h0)]
              · rw [if_pos (by simpa using h0), List.filter_cons, if_neg (by simpa using hx)]
            · rw [if_neg hx]
              by_cases h0 : x.2.2.2 = 0
              · rw [if_neg (by simpa using h0), if_neg (by simpa using h0)]
              · rw [if_pos (by simpa using h0), if_pos (by simpa using h0), List.filter_cons, if_pos (by simpa using hx)]
theorem dz_drop (P : List Pg) (r1 r2 : Int) : dz (dropP P r1 r2).2 = dz P := by
  cases hd : dropDirty P r1 r2 with
  | true =>
    unfold dropP
    rw [if_pos hd]
  | false =>
    rw [dropP_no hd]
    unfold dz
    rw [List.filter_filter]
    refine List.filter_congr fun x hx => ?_
    unfold dropDirty at hd
    rw [List.any_eq_false] at hd
    have := hd x hx
    cases h1 : inR r1 r2 x.1 with
    | false => simp
    | true =>
      rw [h1] at this
      simp at this
      simp [this]
/-- What the law keeps as the newest, of those that are not of a block. -/
def nwB (N : List Pg) (b : Int) (k : Nat) : List Pg := (N.take k).filter fun x => decide (x.1 ≠ b)
theorem nwB_step {N : List Pg} {b : Int} {k : Nat} {x : Pg} (h : N[k]? = some x) : nwB N b (k + 1) = nwB N b k ++ if x.1 = b then [] else [x] := by
  unfold nwB
  rw [List.take_add_one, h, List.filter_append]
  by_cases hx : x.1 = b <;> simp [hx]
theorem nwB_len (N : List Pg) (b : Int) (k : Nat) : (nwB N b k).length ≤ N.length := Nat.le_trans (List.length_filter_le _ _) (by rw [List.length_take]; omega)
theorem nwB_all (N : List Pg) (b : Int) : nwB N b N.length = N.filter fun x => decide (x.1 ≠ b) := by unfold nwB; rw [List.take_length]
theorem dz_le (P : List Pg) : (dz P).length ≤ P.length := List.length_filter_le _ _
def thK (P : List Pg) (x : Pg) (j : Nat) : Bool := (P.take j).any fun y => decide (y = x)
theorem thK_step {P : List Pg} {x y : Pg} {j : Nat} (h : P[j]? = some y) : thK P x (j + 1) = (thK P x j || decide (y = x)) := by
  unfold thK
  rw [List.take_add_one, h, List.any_append]
  simp
theorem thK_all {P : List Pg} {x : Pg} (h : x ∈ P) : thK P x P.length = true := by
  unfold thK
  rw [List.take_length, List.any_eq_true]
  exact ⟨x, h, by simp⟩
end Go.Proofs.Ytafeemlojlngfaa
