/- PageDirty, plain. -/
import Derived.Test.YtafeemlojlngfaaQsolo
namespace Go.Proofs.Ytafeemlojlngfaa
open Go.RowKit Go.Maps Go.Lib Go.Sort
def InS (P : List Pg) : Prop := ∀ p ∈ P, 0 ≤ p.1 ∧ p.1 < 256
theorem InS.cut {P : List Pg} (h : InS P) (b : Int) : InS (cutP P b) := fun p hp => h p (List.mem_filter.1 hp).1
theorem InS.put {n : Nat} {P : List Pg} {p : Pg} {sq : Bool} {wish : Pg → Bool} (h : InS P) : InS (putP n P p sq wish).2 := by
  unfold putP
  by_cases hb : badPg p sq ≠ 0
  · rw [if_pos hb]; exact h
  · rw [if_neg hb]
    have hb0 : badPg p sq = 0 := by
      refine Decidable.byContradiction fun hh => hb hh
    have hp : 0 ≤ p.1 ∧ p.1 < 256 := by have := badPg_ok hb0; omega
    have hcons : ∀ L, InS L → InS (p :: L) := fun L hL q hq => by
      rcases List.mem_cons.1 hq with rfl | hq
      · exact hp
      · exact hL q hq
    cases hf : findP P p.1 with
    | some q =>
      dsimp only
      by_cases hw : wish q = true
      · rw [if_pos hw]; exact hcons _ (h.cut _)
      · rw [if_neg hw]; exact h
    | none =>
      dsimp only
      by_cases hr : P.length < n
      · rw [if_pos hr]; exact hcons _ h
      · rw [if_neg hr]
        cases hl : lastP P with
        | none => exact h
        | some q => exact hcons _ (h.cut _)
theorem InS.get {P : List Pg} (h : InS P) (b : Int) : InS (getP P b).2 := by
  unfold getP
  cases hf : findP P b with
  | none => exact h
  | some q =>
    intro p hp
    rcases List.mem_cons.1 hp with rfl | hp
    · exact h _ (List.mem_of_find?_eq_some hf)
    · exact h.cut _ p hp
theorem InS.clean {P : List Pg} (h : InS P) (b t : Int) : InS (cleanP P b t).2 := by
  unfold cleanP
  cases hf : findP P b with
  | none => exact h
  | some q =>
    dsimp only
    split
    · exact h
    · split
      · exact h
      · intro p hp
        obtain ⟨p0, h0, rfl⟩ := List.mem_map.1 hp
        have := h p0 h0
        split <;> exact this
theorem InS.drop {P : List Pg} (h : InS P) (r1 r2 : Int) : InS (dropP P r1 r2).2 := by
  unfold dropP
  split
  · exact h
  · exact fun p hp => h p (List.mem_filter.1 hp).1
theorem InS.step {n : Nat} {P : List Pg} (h : InS P) (o : St) : InS (stepP n P o) := by
  unfold stepP
  split
  · exact h.get _
  · split
    · exact h.put
    · split
      · exact h.put
      · split
        · exact h.clean _ _
        · split
          · exact h.drop _ _
          · exact h
theorem mem_dirty {P : List Pg} {r1 r2 : Int} {x : Pg} : x ∈ dirtyP P r1 r2 ↔ x ∈ P ∧ inR r1 r2 x.1 = true ∧ x.2.2.2 ≠ 0 := by
  rw [(dirtyP_perm P r1 r2).mem_iff, List.mem_filter, Bool.and_eq_true, bne_iff_ne]
theorem dirty_all {P : List Pg} (hn : (P.map (·.1)).Nodup) (hs : InS P) (r1 r2 : Int) : dirtyP P r1 r2 = (dirtyP P 0 256).filter fun p => inR r1 r2 p.1 := by
  refine srt_is ?_ ?_ ?_ ?_
  · exact (dirtyP_nodup hn 0 256).sublist (List.filter_sublist.map _)
  · exact (dirtyP_srt hn 0 256).sublist List.filter_sublist
  · refine (dirtyP_perm P r1 r2).trans (List.Perm.trans ?_ ((dirtyP_perm P 0 256).filter _).symm)
    rw [List.filter_filter]
    refine List.Perm.of_eq (List.filter_congr fun x hx => ?_)
    have := hs x hx
    have h0 : inR 0 256 x.1 = true := by unfold inR; simp only [decide_eq_true_eq]; exact this
    rw [h0]; simp
  · refine (dirtyP_srt hn r1 r2).imp ?_
    intro a b h
    unfold ltP at *; omega
/-- How many of the first ones are in the range. -/
def kc (A : List Pg) (r1 r2 : Int) (i : Nat) : Nat := ((A.take i).filter fun p => inR r1 r2 p.1).length
theorem kc_step {A : List Pg} {r1 r2 : Int} {i : Nat} {x : Pg} (h : A[i]? = some x) : kc A r1 r2 (i + 1) = kc A r1 r2 i + if inR r1 r2 x.1 = true then 1 else 0 := by
  unfold kc
  rw [List.take_add_one, h, List.filter_append, List.length_append]
  cases hx : inR r1 r2 x.1 <;> simp [hx]
theorem kc_at {A : List Pg} {r1 r2 : Int} {i : Nat} {x : Pg} (h : A[i]? = some x) (hx : inR r1 r2 x.1 = true) : (A.filter fun p => inR r1 r2 p.1)[kc A r1 r2 i]? = some x := by
  obtain ⟨hi, rfl⟩ := List.getElem?_eq_some_iff.1 h
  have e : A = A.take i ++ A[i] :: A.drop (i + 1) := by rw [List.getElem_cons_drop, List.take_append_drop]
  have e2 : A.filter (fun p => inR r1 r2 p.1) = (A.take i).filter (fun p => inR r1 r2 p.1) ++ A[i] :: (A.drop (i + 1)).filter (fun p => inR r1 r2 p.1) := by
    have h0 : A.filter (fun p => inR r1 r2 p.1) = (A.take i ++ A[i] :: A.drop (i + 1)).filter (fun p => inR r1 r2 p.1) := by rw [← e]
    rw [h0, List.filter_append, List.filter_cons, if_pos hx]
  rw [e2]
  unfold kc
  rw [List.getElem?_append_right (Nat.le_refl _)]; simp
theorem kc_all (A : List Pg) (r1 r2 : Int) : kc A r1 r2 A.length = (A.filter fun p => inR r1 r2 p.1).length := by unfold kc; rw [List.take_length]
theorem srt_next {A : List Pg} (h : SrtP A) {i : Nat} {x y : Pg} (hx : A[i]? = some x) (hy : A[i + 1]? = some y) : x.2.2.2 < y.2.2.2 ∨ x.2.2.2 = y.2.2.2 ∧ x.1 < y.1 := by
  unfold SrtP at h
  rw [List.pairwise_iff_getElem] at h
  obtain ⟨h1, rfl⟩ := List.getElem?_eq_some_iff.1 hx
  obtain ⟨h2, rfl⟩ := List.getElem?_eq_some_iff.1 hy
  exact h i (i + 1) h1 h2 (by omega)
theorem drop_dirty (P : List Pg) (r1 r2 : Int) : dropDirty P r1 r2 = decide (dirtyP P r1 r2 ≠ []) := by
  unfold dropDirty
  rw [Bool.eq_iff_iff, List.any_eq_true, decide_eq_true_eq]
  constructor
  · rintro ⟨x, hx, h⟩
    have := mem_dirty.2 ⟨hx, by simpa using h⟩
    exact fun e => by rw [e] at this; simp at this
  · intro hne
    obtain ⟨x, hx⟩ := List.exists_mem_of_ne_nil _ hne
    obtain ⟨h1, h2, h3⟩ := mem_dirty.1 hx
    exact ⟨x, h1, by simp [h2, h3]⟩
/-- What is left to be cleaned in a range: just some pages. -/
def Left (P : List Pg) (r1 r2 : Int) (L : List Pg) : Prop := (∀ x ∈ L, x ∈ P ∧ x.2.2.2 ≠ 0) ∧ ∀ q ∈ P, inR r1 r2 q.1 = true → q.2.2.2 ≠ 0 → q ∈ L
theorem findP_mem {P : List Pg} (hn : (P.map (·.1)).Nodup) {x : Pg} (hx : x ∈ P) : findP P x.1 = some x := by
  unfold findP
  cases hf : P.find? (fun p => decide (x.1 = p.1)) with
  | none => have := List.find?_eq_none.1 hf x hx; simp at this
  | some q =>
    have h1 := List.find?_some hf
    simp only [decide_eq_true_eq] at h1
    exact congrArg some (inj_once (f := (·.1)) hn (List.mem_of_find?_eq_some hf) hx h1.symm)
theorem clean_left {P L : List Pg} {r1 r2 : Int} {x : Pg} (hn : (P.map (·.1)).Nodup) (hL : ((x :: L).map (·.1)).Nodup) (h : Left P r1 r2 (x :: L)) :
    (cleanP P x.1 x.2.1).1 = 0 ∧ Left (cleanP P x.1 x.2.1).2 r1 r2 L ∧ ((cleanP P x.1 x.2.1).2.map (·.1)).Nodup ∧ cleanP (cleanP P x.1 x.2.1).2 x.1 x.2.1 = (3, (cleanP P x.1 x.2.1).2) := by
  obtain ⟨hxP, hx0⟩ := h.1 x (by simp)
  have hv : cleanP P x.1 x.2.1 = (0, P.map fun p => if p.1 = x.1 then (p.1, p.2.1, p.2.2.1, 0) else p) := by
    unfold cleanP
    rw [findP_mem hn hxP]
    simp [hx0]
  have hkeys : ((P.map fun p => if p.1 = x.1 then (p.1, p.2.1, p.2.2.1, 0) else p).map (·.1)) = P.map (·.1) := by
    rw [List.map_map]
    apply List.map_congr_left
    intro p _
    simp only [Function.comp]
    split <;> rfl
  rw [hv]
  refine ⟨rfl, ⟨?_, ?_⟩, by rw [hkeys]; exact hn, ?_⟩
  · intro y hy
    have h1 := h.1 y (List.mem_cons_of_mem _ hy)
    have hne : y.1 ≠ x.1 := by
      simp only [List.map_cons, List.nodup_cons] at hL
      exact fun e => hL.1 (by rw [← e]; exact List.mem_map_of_mem hy)
    exact ⟨List.mem_map.2 ⟨y, h1.1, by rw [if_neg hne]⟩, h1.2⟩
  · intro q hq hr h0
    obtain ⟨p, hp, rfl⟩ := List.mem_map.1 hq
    by_cases hpx : p.1 = x.1
    · rw [if_pos hpx] at h0; simp at h0
    · rw [if_neg hpx] at hr h0 ⊢
      rcases List.mem_cons.1 (h.2 p hp hr h0) with rfl | hh
      · exact absurd rfl hpx
      · exact hh
  · dsimp only
    have hmem : (x.1, x.2.1, x.2.2.1, (0 : Int)) ∈ P.map fun p => if p.1 = x.1 then (p.1, p.2.1, p.2.2.1, 0) else p := List.mem_map.2 ⟨x, hxP, by rw [if_pos rfl]⟩
    have hf := findP_mem (by rw [hkeys]; exact hn) hmem
    dsimp only at hf
    have : ∀ L : List Pg, findP L x.1 = some (x.1, x.2.1, x.2.2.1, (0 : Int)) → cleanP L x.1 x.2.1 = (3, L) := by
      intro L h
      unfold cleanP
      rw [h]; simp
    exact this _ hf
theorem left_start (P : List Pg) (r1 r2 : Int) : Left P r1 r2 (dirtyP P r1 r2) := by
  refine ⟨fun x hx => ?_, fun q hq h1 h2 => mem_dirty.2 ⟨hq, h1, h2⟩⟩
  obtain ⟨h1, _, h3⟩ := mem_dirty.1 hx
  exact ⟨h1, h3⟩
theorem left_end {P : List Pg} {r1 r2 : Int} (h : Left P r1 r2 []) : dirtyP P r1 r2 = [] := by
  refine List.eq_nil_iff_forall_not_mem.2 fun x hx => ?_
  obtain ⟨h1, h2, h3⟩ := mem_dirty.1 hx
  have := h.2 x h1 h2 h3
  simp at this
theorem drop_clean {P : List Pg} {r1 r2 : Int} (h : dirtyP P r1 r2 = []) : (dropP P r1 r2).1.2 = 0 ∧ dirtyP (dropP P r1 r2).2 r1 r2 = [] := by
  have hd : dropDirty P r1 r2 = false := by rw [drop_dirty, h]; simp
  rw [dropP_no hd]
  refine ⟨rfl, ?_⟩
  refine List.eq_nil_iff_forall_not_mem.2 fun x hx => ?_
  obtain ⟨h1, h2, _⟩ := mem_dirty.1 hx
  have := (List.mem_filter.1 h1).2
  rw [h2] at this
  simp at this
theorem drop_first (P : List Pg) (r1 r2 : Int) : ((dropP P r1 r2).1.2 = 190 ∧ (dropP P r1 r2).2 = P ∧ dirtyP P r1 r2 ≠ []) ∨ ((dropP P r1 r2).1.2 = 0 ∧ dirtyP P r1 r2 = [] ∧ Left (dropP P r1 r2).2 r1 r2 []) := by
  by_cases h : dirtyP P r1 r2 = []
  · right
    obtain ⟨h1, h2⟩ := drop_clean h
    refine ⟨h1, h, ?_⟩
    have := left_start (dropP P r1 r2).2 r1 r2
    rwa [h2] at this
  · left
    have hd : dropDirty P r1 r2 = true := by rw [drop_dirty]; simpa using h
    unfold dropP
    rw [if_pos hd]
    exact ⟨rfl, rfl, h⟩
theorem old_head (P : List Pg) : (dirtyP P 0 256 = [] ∧ oldP P = 0) ∨ ∃ x T, dirtyP P 0 256 = x :: T ∧ oldP P = x.2.2.2 := by
  unfold oldP
  cases h : dirtyP P 0 256 with
  | nil => exact .inl ⟨rfl, rfl⟩
  | cons x T => exact .inr ⟨x, T, rfl, rfl⟩
end Go.Proofs.Ytafeemlojlngfaa
