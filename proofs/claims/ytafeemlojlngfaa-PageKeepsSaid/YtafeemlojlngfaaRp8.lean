/- The reference's pages: Clean. -/
import Derived.Test.YtafeemlojlngfaaRp7
import Derived.Test.YtafeemlojlngfaaMore2
namespace Go.Proofs.Ytafeemlojlngfaa
open Go.RowKit Go.Maps Go.Lib Go.Sort
theorem mark_at {P : List Pg} (hn : (P.map (·.1)).Nodup) {i : Nat} {q : Pg} (hi : i < P.length) (hq : P[i]? = some q) : P.set i (q.1, q.2.1, q.2.2.1, 0) = P.map fun p => if p.1 = q.1 then (p.1, p.2.1, p.2.2.1, 0) else p := by
  obtain ⟨_, rfl⟩ := List.getElem?_eq_some_iff.1 hq
  apply List.ext_getElem
  · simp
  · intro m h1 h2
    rw [List.getElem_set, List.getElem_map]
    by_cases e : i = m
    · subst e; simp
    · rw [if_neg e, if_neg]
      intro hh
      rw [List.nodup_iff_pairwise_ne, List.pairwise_iff_getElem] at hn
      simp only [List.length_set] at h1
      rcases Nat.lt_or_gt_of_ne e with hlt | hlt
      · exact hn i m (by simpa using hi) (by simpa using h1) hlt (by simpa using hh.symm)
      · exact hn m i (by simpa using h1) (by simpa using hi) hlt (by simpa using hh)
set_option maxRecDepth 100000 in
set_option maxHeartbeats 4000000 in
theorem rclean_any {rb n : Nat} {P : List Pg} {w : World} (h : RefC w rb n P) (hl : P.length < 1000000) (hnd : (P.map (·.1)).Nodup) (b t : Int) :
    Calls Try.prog 27 #[.pointer (some ⟨rb, 0, none⟩), .int .i64 b, .int .i64 t] w (OutR rb n (cleanP P b t) w) := by
  have hat := at_any h hl b
  rcases at_split P hnd b with ⟨ha, hf⟩ | ⟨i, q, ha, hi, hq, hqb, hf, hc⟩
  · have e : cleanP P b t = (3, P) := by unfold cleanP; rw [hf]
    rw [e]
    rw [ha] at hat
    clear ha hf e
    go_enter Try.func27, Try.ntmps27
    go_wp2_with (go_at_call 43; refine hat.mono ?_; rintro e w2 ⟨rfl, rfl⟩)
    go_ret
    exact ⟨rfl, Fr.refl _ _, h⟩
  · have e : cleanP P b t = if q.2.2.2 = 0 then (3, P) else if q.2.1 ≠ t then (5, P) else (0, P.set i (q.1, q.2.1, q.2.2.1, 0)) := by
      unfold cleanP; rw [hf, mark_at hnd hi hq, hqb]
    rw [e]
    rw [ha] at hat
    obtain ⟨a, cap, hro, hc1, hc2, hsl, hcs⟩ := h.open
    obtain ⟨g, off, rfl, hg1, hg2, hcells⟩ := hcs (by rintro rfl; simp at hi)
    have k1 := hcells i q 1 _ hq rfl
    have k3 := hcells i q 3 _ hq rfl
    rw [← Nat.add_assoc] at k1 k3
    have hfd : w.cell? ⟨rb, 0, none⟩ = some (.slice (some ⟨g, off, none⟩) P.length cap) := by rw [cell_at hro]; rfl
    have lr := lt_of_cell hfd
    have hq' := Lib.hid hq; have hro' := Lib.hid hro
    clear ha hf e hc hcs hcells hq hro hqb
    obtain ⟨q1, q2, q3, q4⟩ := q
    dsimp only at *
    by_cases c1 : q4 = 0
    · rw [if_pos c1]
      subst c1
      go_enter Try.func27, Try.ntmps27
      go_wp2_with (go_at_call 43; refine hat.mono ?_; rintro e w2 ⟨rfl, rfl⟩)
      go_ret
      exact ⟨rfl, Fr.refl _ _, h⟩
    · rw [if_neg c1]
      have c1' : (q4 == 0) = false := by simpa using c1
      by_cases c2 : q2 = t
      · rw [if_neg (fun hh => hh c2)]
        subst c2
        have hown0 : (w.alloc (.cells #[] 56)).ownsRow w.heap.size 56 4 (.slice (some ⟨w.heap.size, 0, none⟩) 0 0) ([] : List Pg).length (([] : List Pg).flatMap encPg) := World.ownsRow_made w #[] 0 (Nat.le_refl _) (Nat.zero_le _) rfl
        have hfa : Fr [] w (w.alloc (.cells #[] 56)) := (Fr.refl [] w).alloc _
        have hs1 := hsl.fr hfa (by simp)
        go_enter Try.func27, Try.ntmps27
        go_wp2_with (first | (go_at_call 43; refine hat.mono ?_; rintro e w2 ⟨rfl, hw2⟩; have hw3 := hw2.symm; subst hw3) | (at_builtin; (refine wpList_more _ rfl (.tmp 36) (.tmp 40) 37 rfl w.heap.size 56 Try.underlying37 infoRP rfl (by omega) (.slice (some ⟨w.heap.size, 0, none⟩) 0 0) [] rfl hown0 _ P rfl hs1 encPg_len enc1 (by simp; omega) (by omega) (by simp) ?_; intro v1 w1 hown1 hf1 hat1; have hfw := hfa.andThen hf1 (by simp [Value.ownBlock]); rw [List.nil_append] at hown1; obtain ⟨g1, cap1, rfl, hg3, hg4, hl1, hfz, hcl⟩ := owns_cell hown1 encPg_len (by rintro rfl; simp at hi); have s3 := hcl i _ 3 _ hq'.out rfl; have z3 := hfz (i * 4 + 3); have hr1 := hfw.keep hro'.out (by simp); have r0 := (show w1.cell? ⟨rb, 0, none⟩ = some (.slice (some ⟨g, off, none⟩) P.length cap) from cell_at hr1); have rz := (show w1.frozen? ⟨rb, 0, none⟩ = false from frozen_at hr1); have hr1' := Lib.hid hr1; have hown1' := Lib.hid hown1; have hcl' := Lib.hid hcl; have hrg : rb ≠ g1 := (by omega); have hgr : g1 ≠ rb := (by omega); clear hr1 hcl hown1 hfz)))
        go_ret
        have hsl2 := owns_setAt hown1'.out encPg_len i _ (q1, q2, q3, 0) 3 (.int .i64 0) hq'.out (by omega) rfl
        have e1 : Fr [g1] w1 (w1.setCell ⟨g1, i * 4 + 3, none⟩ (.int .i64 0)) := (Fr.refl _ _).setCell _ _ (.inl (by simp))
        have e2 : Fr [rb] (w1.setCell ⟨g1, i * 4 + 3, none⟩ (.int .i64 0)) ((w1.setCell ⟨g1, i * 4 + 3, none⟩ (.int .i64 0)).setCell ⟨rb, 0, none⟩ (.slice (some ⟨g1, 0, none⟩) P.length cap1)) := (Fr.refl _ _).setCell _ _ (.inl (by simp))
        refine ⟨rfl, (hfw.mono (by simp)).andThen (e1.mono (T := [g1, rb]) (by simp) |>.trans (e2.mono (by simp))) (by simp; omega), _, setCell_at (e1.keep hr1'.out (by simp; omega)) _, ?_⟩
        exact owns_base (owns_fr2 hsl2 e2 (by intro x hx hm; simp [Value.ownBlock] at hx hm; omega)) (Nat.zero_le _)
      · rw [if_pos c2]
        have c2' : (q2 != t) = true := by simpa using c2
        go_enter Try.func27, Try.ntmps27
        go_wp2_with (go_at_call 43; refine hat.mono ?_; rintro e w2 ⟨rfl, rfl⟩)
        go_ret
        exact ⟨rfl, Fr.refl _ _, h⟩
end Go.Proofs.Ytafeemlojlngfaa
