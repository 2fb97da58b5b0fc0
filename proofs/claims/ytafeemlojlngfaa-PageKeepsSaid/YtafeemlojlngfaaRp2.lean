/- The reference's pages: Get. -/
import Derived.Test.YtafeemlojlngfaaRp1
namespace Go.Proofs.Ytafeemlojlngfaa
open Go.RowKit Go.Maps Go.Lib Go.Sort
theorem at_split (P : List Pg) (hn : (P.map (·.1)).Nodup) (b : Int) : (atP P b = -1 ∧ findP P b = none) ∨
    ∃ (i : Nat) (q : Pg), atP P b = i ∧ i < P.length ∧ P[i]? = some q ∧ q.1 = b ∧ findP P b = some q ∧ P.take i ++ P.drop (i + 1) = cutP P b := by
  unfold atP findP
  cases h : P.findIdx? (fun p => decide (p.1 = b)) with
  | none =>
    left
    refine ⟨rfl, ?_⟩
    rw [List.findIdx?_eq_none_iff] at h
    rw [List.find?_eq_none]
    intro x hx
    have := h x hx
    simp only [decide_eq_false_iff_not] at this
    simpa using Ne.symm this
  | some i =>
    right
    rw [List.findIdx?_eq_some_iff_getElem] at h
    obtain ⟨hi, hx, hlt⟩ := h
    simp only [decide_eq_true_eq] at hx
    have hP : P = P.take i ++ P[i] :: P.drop (i + 1) := by rw [List.getElem_cons_drop, List.take_append_drop]
    have hno : ∀ y ∈ P.take i ++ P.drop (i + 1), y.1 ≠ P[i].1 := by
      intro y hy e
      rw [hP, List.map_append, List.map_cons] at hn
      have h2 := (List.perm_middle.nodup_iff).1 hn
      rw [List.nodup_cons] at h2
      refine h2.1 ?_
      rw [← List.map_append, ← e]
      exact List.mem_map_of_mem hy
    refine ⟨i, P[i], rfl, hi, List.getElem?_eq_getElem hi, hx, ?_, ?_⟩
    · have : P.find? (fun p => decide (b = p.1)) = (P.take i ++ P[i] :: P.drop (i + 1)).find? (fun p => decide (b = p.1)) := by rw [← hP]
      rw [this, List.find?_append]
      have h0 : (P.take i).find? (fun p => decide (b = p.1)) = none := by
        rw [List.find?_eq_none]
        intro y hy
        have := hno y (List.mem_append_left _ hy)
        rw [hx] at this
        simpa using Ne.symm this
      rw [h0, Option.none_or, List.find?_cons_of_pos (by simpa using hx.symm)]
    · have : cutP P b = cutP (P.take i ++ P[i] :: P.drop (i + 1)) b := by rw [← hP]
      rw [this]
      unfold cutP
      rw [List.filter_append, List.filter_cons, if_neg (by simp [hx]), ← List.filter_append]
      symm
      rw [List.filter_eq_self]
      intro y hy
      have := hno y hy
      rw [hx] at this
      simpa using this
def getP (P : List Pg) (b : Int) : (Pg × Bool) × List Pg := match findP P b with | none => ((zeroPg, false), P) | some q => ((q, true), q :: cutP P b)
set_option maxRecDepth 100000 in
set_option maxHeartbeats 4000000 in
theorem rget_any {rb n : Nat} {P : List Pg} {w : World} (h : RefC w rb n P) (hl : P.length < 1000000) (hn : (P.map (·.1)).Nodup) (b : Int) :
    Calls Try.prog 24 #[.pointer (some ⟨rb, 0, none⟩), .int .i64 b] w fun e w' => e = .returned (.tuple #[aggPg (getP P b).1.1, .bool (getP P b).1.2]) ∧ Fr [rb] w w' ∧ RefC w' rb n (getP P b).2 := by
  have hf0 : Fr [] w (w.alloc (.cells #[.int .i64 0, .int .i64 0, .string ⟨#[]⟩, .int .i64 0] 56)) := (Fr.refl _ _).alloc _
  have hat := at_any (h.fr0 hf0) hl b
  rcases at_split P hn b with ⟨ha, hfi⟩ | ⟨i, q, ha, hi, hq, hqb, hfi, hcut⟩
  · have hg : getP P b = ((zeroPg, false), P) := by unfold getP; rw [hfi]
    rw [hg]
    rw [ha] at hat
    have h0 := h.fr0 hf0
    clear hg ha hfi
    go_enter Try.func24, Try.ntmps24
    go_wp2_with (first | (go_at_call 43; refine hat.mono ?_; rintro e w' ⟨rfl, rfl⟩))
    refine bodyPost_ret (v := .tuple #[aggPg zeroPg, .bool false]) (by simp [results, Try.results24, go_sem]; rfl) rfl ?_
    refine ⟨rfl, (hf0.mono (by simp)), ?_⟩
    exact h0
  · have hg : getP P b = ((q, true), q :: cutP P b) := by unfold getP; rw [hfi]
    rw [hg]
    rw [ha] at hat
    have hwo : ∀ W, Fr [] w W → _ := fun W hW => without_any (h.fr0 hW) hl i hi
    rw [hcut] at hwo
    obtain ⟨a, cap, hr, hc1, hc2, _, hcells⟩ := h.open
    obtain ⟨g, off, rfl, hg1, hg2, hcs⟩ := hcells (by rintro rfl; simp at hi)
    obtain ⟨p1, p2, p3, p4⟩ := q
    dsimp only at hqb
    subst hqb
    have k0 := hcs i _ 0 _ hq rfl
    have k1 := hcs i _ 1 _ hq rfl
    have k2 := hcs i _ 2 _ hq rfl
    have k3 := hcs i _ 3 _ hq rfl
    dsimp only at k0 k1 k2 k3
    rw [Nat.add_zero] at k0
    simp only [← Nat.add_assoc] at k1 k2 k3
    have hf : w.cell? ⟨rb, 0, none⟩ = some (.slice (some ⟨g, off, none⟩) P.length cap) := by rw [cell_at hr]; rfl
    have lr := lt_of_cell hf
    have hwo' := Lib.hid hwo
    clear hg ha hfi hcells hcs hr hq hcut hwo
    go_enter Try.func24, Try.ntmps24
    go_wp2_with (first | (go_at_call 43; refine hat.mono ?_; rintro e w' ⟨rfl, rfl⟩))
    have hW1 : Fr [] w ((w.alloc (.cells #[.int .i64 0, .int .i64 0, .string ⟨#[]⟩, .int .i64 0] 56)).alloc (.cells #[.int .i64 p1, .int .i64 p2, .string p3, .int .i64 p4] 56)) := hf0.alloc _
    have hz := ((w.alloc (.cells #[.int .i64 0, .int .i64 0, .string ⟨#[]⟩, .int .i64 0] 56)).alloc (.cells #[.int .i64 p1, .int .i64 p2, .string p3, .int .i64 p4] 56)).cell?
    obtain ⟨W1, hWe⟩ : ∃ W1, W1 = ((w.alloc (.cells #[.int .i64 0, .int .i64 0, .string ⟨#[]⟩, .int .i64 0] 56)).alloc (.cells #[.int .i64 p1, .int .i64 p2, .string p3, .int .i64 p4] 56)) := ⟨_, rfl⟩
    have b0 : W1.heap[w.heap.size]? = some (.cells #[.int .i64 0, .int .i64 0, .string ⟨#[]⟩, .int .i64 0] 56 (0, 0)) := by
      rw [hWe]; exact (Fr.refl [] _).alloc _ |>.keep (heap_alloc_new w _) (by simp)
    have b1 : W1.heap[w.heap.size + 1]? = some (.cells #[.int .i64 p1, .int .i64 p2, .string p3, .int .i64 p4] 56 (0, 0)) := by
      rw [hWe]
      have := heap_alloc_new (w.alloc (.cells #[.int .i64 0, .int .i64 0, .string ⟨#[]⟩, .int .i64 0] 56)) (.cells #[.int .i64 p1, .int .i64 p2, .string p3, .int .i64 p4] 56)
      simpa using this
    rw [← hWe] at hW1 ⊢
    have k0' : W1.cell? ⟨w.heap.size + 1, 0, none⟩ = some (.int .i64 p1) := cell_at b1
    have k1' : W1.cell? ⟨w.heap.size + 1, 1, none⟩ = some (.int .i64 p2) := cell_at b1
    have k2' : W1.cell? ⟨w.heap.size + 1, 2, none⟩ = some (.string p3) := cell_at b1
    have k3' : W1.cell? ⟨w.heap.size + 1, 3, none⟩ = some (.int .i64 p4) := cell_at b1
    have hzz := hW1.size
    have b0' := Lib.hid b0; have b1' := Lib.hid b1
    have lb : w.heap.size + 1 < W1.heap.size := lt_of_cell k0'
    clear hWe b0 b1 hz hat hf0 k0 k1 k2 k3 hf
    have hcl : (cutP P p1).length < 1000000 := by have := List.length_filter_le (fun p : Pg => decide (p.1 ≠ p1)) P; unfold cutP; omega
    have hnr : w.heap.size ∉ [rb] := by simp; omega
    have hnr2 : w.heap.size + 1 ∉ [rb] := by simp; omega
    go_region_with (first | (go_at_call 45; refine (hwo'.out _ hW1.drew).mono ?_; rintro e w2 ⟨v, rfl, hf2, hs2⟩; have hfw2 := hW1.drew.trans hf2; have hb0 := hf2.keep (a := W1.drew) b0'.out (by simp); have hb1 := hf2.keep (a := W1.drew) b1'.out (by simp); have j0 := (show w2.cell? ⟨w.heap.size + 1, 0, none⟩ = some (.int .i64 p1) from cell_at hb1); have j1 := (show w2.cell? ⟨w.heap.size + 1, 1, none⟩ = some (.int .i64 p2) from cell_at hb1); have j2 := (show w2.cell? ⟨w.heap.size + 1, 2, none⟩ = some (.string p3) from cell_at hb1); have j3 := (show w2.cell? ⟨w.heap.size + 1, 3, none⟩ = some (.int .i64 p4) from cell_at hb1); have lj := lt_of_cell j0; have hb0' := Lib.hid hb0; have hb1' := Lib.hid hb1; have hfr := front_any (h.fr0 hfw2) hs2 hcl (p1, p2, p3, p4); unfold aggPg at hfr; dsimp only at hfr; clear hb0 hb1) | (go_at_call 44; refine hfr.mono ?_; rintro e w3 ⟨rfl, hf3, hR3⟩; have hc0 := hf3.keep hb0'.out hnr; have hc1 := hf3.keep hb1'.out hnr2; have l0 := (show w3.cell? ⟨w.heap.size + 1, 0, none⟩ = some (.int .i64 p1) from cell_at hc1); have l1 := (show w3.cell? ⟨w.heap.size + 1, 1, none⟩ = some (.int .i64 p2) from cell_at hc1); have l2 := (show w3.cell? ⟨w.heap.size + 1, 2, none⟩ = some (.string p3) from cell_at hc1); have l3 := (show w3.cell? ⟨w.heap.size + 1, 3, none⟩ = some (.int .i64 p4) from cell_at hc1); have m0 := (show w3.cell? ⟨w.heap.size, 0, none⟩ = some (.int .i64 0) from cell_at hc0); have m1 := (show w3.cell? ⟨w.heap.size, 1, none⟩ = some (.int .i64 0) from cell_at hc0); have m2 := (show w3.cell? ⟨w.heap.size, 2, none⟩ = some (.string ⟨#[]⟩) from cell_at hc0); have m3 := (show w3.cell? ⟨w.heap.size, 3, none⟩ = some (.int .i64 0) from cell_at hc0); have n0 := (show w3.frozen? ⟨w.heap.size, 0, none⟩ = false from frozen_at hc0); have n1 := (show w3.frozen? ⟨w.heap.size, 1, none⟩ = false from frozen_at hc0); have n2 := (show w3.frozen? ⟨w.heap.size, 2, none⟩ = false from frozen_at hc0); have n3 := (show w3.frozen? ⟨w.heap.size, 3, none⟩ = false from frozen_at hc0); have lk := lt_of_cell l0; clear hc0 hc1))
    all_goals
      go_wp2
      refine bodyPost_ret (v := .tuple #[aggPg (p1, p2, p3, p4), .bool true]) (by simp [results, Try.results24, go_sem, m0, m1, m2, m3]; rfl) rfl ?_
      have hz : Fr [w.heap.size] w3 ((((w3.setCell ⟨w.heap.size, 0, none⟩ (.int .i64 p1)).setCell ⟨w.heap.size, 1, none⟩ (.int .i64 p2)).setCell ⟨w.heap.size, 2, none⟩ (.string p3)).setCell ⟨w.heap.size, 3, none⟩ (.int .i64 p4)) :=
        ((((Fr.refl [w.heap.size] w3).setCell ⟨w.heap.size, 0, none⟩ _ (.inl (by simp))).setCell ⟨w.heap.size, 1, none⟩ _ (.inl (by simp))).setCell ⟨w.heap.size, 2, none⟩ _ (.inl (by simp))).setCell ⟨w.heap.size, 3, none⟩ _ (.inl (by simp))
      have hz2 := hfw2.size
      exact ⟨rfl, ((hfw2.mono (by simp)).trans hf3).andThen hz (by simp), (hR3.fr hz (by simp; omega) (by simp; omega)).refC (by omega)⟩
end Go.Proofs.Ytafeemlojlngfaa
