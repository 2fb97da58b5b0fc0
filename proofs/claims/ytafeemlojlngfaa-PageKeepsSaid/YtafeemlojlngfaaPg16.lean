/- Pages (chapter 19): Clean, by the pages alone (clean_any). -/
import Derived.Test.YtafeemlojlngfaaPg15
namespace Go.Proofs.Ytafeemlojlngfaa
open Go.RowKit Go.Maps
def markQ (Q : List (Nat × Pg)) (x : Nat) : List (Nat × Pg) := Q.map fun q => if q.1 = x then (q.1, q.2.1, q.2.2.1, q.2.2.2.1, 0) else q
theorem markQ_blocks (Q : List (Nat × Pg)) (x : Nat) : (markQ Q x).map (·.1) = Q.map (·.1) := by
  unfold markQ
  rw [List.map_map]
  apply List.map_congr_left
  intro q _
  simp only [Function.comp]
  split <;> rfl
theorem markQ_keys (Q : List (Nat × Pg)) (x : Nat) : keysQ (markQ Q x) = keysQ Q := by
  unfold markQ keysQ
  rw [List.map_map]
  apply List.map_congr_left
  intro q _
  simp only [Function.comp]
  split <;> rfl
theorem CacheAt.mark {w : World} {cb bm rg n : Nat} {Q : List (Nat × Pg)} {x : Nat} {p : Pg} (h : CacheAt w cb bm rg n Q) (hx : (x, p) ∈ Q) : CacheAt (w.setCell ⟨x, 3, none⟩ (.int .i64 0)) cb bm rg n (markQ Q x) := by
  have hf : Fr [x] w (w.setCell ⟨x, 3, none⟩ (.int .i64 0)) := (Fr.refl [x] w).setCell ⟨x, 3, none⟩ _ (.inl (by simp))
  have hbl := h.blocks
  obtain ⟨t, ⟨L, m, pm⟩, ⟨ah, bh, pg, lk, s, hq⟩, a, f⟩ := h
  have hxm : x ∈ Q.map (·.1) := List.mem_map_of_mem (f := (·.1)) hx
  have hnd := a
  simp only [List.nodup_cons, List.mem_cons, not_or] at hnd
  obtain ⟨⟨a1, a2, a3⟩, ⟨a4, a5⟩, a6, a7⟩ := hnd
  refine ⟨hf.keep t ?_, ⟨L, m.fr hf ?_, ?_⟩, ⟨ah, bh, fun b => if b = x then (p.1, p.2.1, p.2.2.1, 0) else pg b, ?_, ?_, ?_⟩, ?_, ?_⟩
  · simp only [List.mem_singleton]; exact fun e => a3 (e ▸ hxm)
  · simp only [List.mem_singleton]; exact fun e => a5 (e ▸ hxm)
  · exact pm.trans (List.Perm.of_eq (markQ_keys Q x).symm)
  · rw [markQ_blocks]
    intro b hb
    dsimp only
    by_cases e : b = x
    · subst e
      rw [if_pos rfl]
      have := lk b hb
      rw [hq _ hx] at this
      exact setCell_at this _
    · rw [if_neg e]
      exact (lk b hb).far _ e
  · rw [markQ_blocks]; exact s
  · intro q hqm
    obtain ⟨q0, h0, rfl⟩ := List.mem_map.1 hqm
    by_cases e : q0.1 = x
    · have : q0 = (x, p) := inj_once hbl h0 hx e
      subst this
      simp
    · simp only [if_neg e]
      exact hq q0 h0
  · rw [markQ_blocks]; exact a
  · unfold markQ; simpa using f
theorem markQ_pages {Q : List (Nat × Pg)} {x : Nat} {p : Pg} (h1 : (Q.map (·.1)).Nodup) (h2 : (Q.map (·.2.1)).Nodup) (hx : (x, p) ∈ Q) : (markQ Q x).map (·.2) = (Q.map (·.2)).map fun q => if q.1 = p.1 then (q.1, q.2.1, q.2.2.1, 0) else q := by
  unfold markQ
  rw [List.map_map, List.map_map]
  apply List.map_congr_left
  intro q hq
  simp only [Function.comp]
  by_cases e : q.1 = x
  · have : q = (x, p) := inj_once (f := (·.1)) h1 hq hx e
    subst this
    simp
  · have : q.2.1 ≠ p.1 := fun e2 => e (congrArg (·.1) (inj_once h2 hq hx e2))
    rw [if_neg e, if_neg this]
theorem clean_any {cb bm rg n : Nat} {Q : List (Nat × Pg)} {w : World} (h : CacheAt w cb bm rg n Q) (b t : Int) :
    Calls Try.prog 21 #[.pointer (some ⟨cb, 0, none⟩), .int .i64 b, .int .i64 t] w (PutOut n Q cb bm rg (cleanP (Q.map (·.2)) b t) w) := by
  have hsame : ∀ q ∈ Q, q.1 ∈ Q.map (·.1) ∨ w.heap.size ≤ q.1 := fun q hq => .inl (List.mem_map_of_mem (f := (·.1)) hq)
  cases hat : atQ Q b with
  | none =>
    have hf : findP (Q.map (·.2)) b = none := by rw [← atQ_pages, hat]; rfl
    have hv : cleanP (Q.map (·.2)) b t = (3, Q.map (·.2)) := by unfold cleanP; rw [hf]
    rw [hv]
    refine (clean_none h b t hat).mono ?_
    rintro e w' ⟨rfl, rfl⟩
    exact ⟨rfl, Fr.refl _ _, Q, rfl, h, hsame⟩
  | some q =>
    obtain ⟨x, q1, q2, q3, q4⟩ := q
    have hf : findP (Q.map (·.2)) b = some (q1, q2, q3, q4) := by rw [← atQ_pages, hat]; rfl
    obtain ⟨hk, hm⟩ := atQ_split hat
    refine (clean_some h b t hat).mono ?_
    rintro e w' ⟨c1, c2, c3⟩
    by_cases z : q4 = 0
    · obtain ⟨rfl, rfl⟩ := c1 z
      have hv : cleanP (Q.map (·.2)) b t = (3, Q.map (·.2)) := by unfold cleanP; rw [hf]; simp [z]
      rw [hv]
      exact ⟨rfl, Fr.refl _ _, Q, rfl, h, hsame⟩
    · by_cases s : q2 = t
      · obtain ⟨rfl, rfl⟩ := c3 z s
        have hv : cleanP (Q.map (·.2)) b t = (0, (Q.map (·.2)).map fun p => if p.1 = b then (p.1, p.2.1, p.2.2.1, 0) else p) := by unfold cleanP; rw [hf]; simp [z, s]
        rw [hv]
        refine ⟨rfl, (Fr.refl _ _).setCell _ _ (.inl ?_), _, ?_, h.mark hm, ?_⟩
        · exact List.mem_cons_of_mem _ (List.mem_cons_of_mem _ (List.mem_map_of_mem (f := (·.1)) hm))
        · rw [markQ_pages h.blocks h.nodup hm, ← hk]
        · intro q hq
          have := List.mem_map_of_mem (f := (·.1)) hq
          rw [markQ_blocks] at this
          exact .inl this
      · obtain ⟨rfl, rfl⟩ := c2 z s
        have hv : cleanP (Q.map (·.2)) b t = (5, Q.map (·.2)) := by unfold cleanP; rw [hf]; simp [z, s]
        rw [hv]
        exact ⟨rfl, Fr.refl _ _, Q, rfl, h, hsame⟩
end Go.Proofs.Ytafeemlojlngfaa
