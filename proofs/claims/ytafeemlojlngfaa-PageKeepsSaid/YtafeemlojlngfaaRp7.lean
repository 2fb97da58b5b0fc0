/- The reference's pages: Set. -/
import Derived.Test.YtafeemlojlngfaaRp6
namespace Go.Proofs.Ytafeemlojlngfaa
open Go.RowKit Go.Maps Go.Lib Go.Sort
set_option maxRecDepth 100000 in
set_option maxHeartbeats 4000000 in
theorem rset_bad {rb n : Nat} {P : List Pg} {w : World} (h : RefC w rb n P) (p : Pg) (hb : badPg p (decide (1 ≤ p.2.2.2 ∧ p.2.2.2 ≤ 1099511627776)) ≠ 0) :
    Calls Try.prog 26 #[.pointer (some ⟨rb, 0, none⟩), aggPg p] w (OutR rb n (badPg p (decide (1 ≤ p.2.2.2 ∧ p.2.2.2 ≤ 1099511627776)), P) w) := by
  obtain ⟨W, hW⟩ : ∃ W, W = w.alloc (.cells #[.int .i64 p.1, .int .i64 p.2.1, .string p.2.2.1, .int .i64 p.2.2.2] 56) := ⟨_, rfl⟩
  have hf0 : Fr [] w W := by rw [hW]; exact (Fr.refl _ _).alloc _
  have hb1 : W.heap[w.heap.size]? = some (.cells #[.int .i64 p.1, .int .i64 p.2.1, .string p.2.2.1, .int .i64 p.2.2.2] 56 (0, 0)) := by rw [hW]; exact heap_alloc_new w _
  have hwr := wrong_any p W
  obtain ⟨b, hbe⟩ : ∃ b, b = badPg p (decide (1 ≤ p.2.2.2 ∧ p.2.2.2 ≤ 1099511627776)) := ⟨_, rfl⟩
  rw [← hbe] at hb ⊢
  by_cases hr : badR p = 0
  · rw [hr] at hwr
    rw [badPg_in hr] at hbe
    obtain ⟨p1, p2, p3, p4⟩ := p
    unfold aggPg at hwr ⊢
    dsimp only at *
    rw [hW] at hwr
    by_cases z1 : p4 < 1
    · rw [decide_eq_false (by omega), if_pos rfl] at hbe
      subst hbe
      clear hr hb
      have hb1' := Lib.hid hb1; have hW' := Lib.hid hW; clear hb1 hW
      go_enter Try.func26, Try.ntmps26
      go_wp2_with (go_at_call 46; refine hwr.mono ?_; rintro e w2 ⟨rfl, hf2⟩; have hb2 := hf2.keep (by rw [← hW'.out]; exact hb1'.out) (by simp); have j2 := (show w2.cell? ⟨w.heap.size, 2, none⟩ = some (.string p3) from cell_at hb2); have j3 := (show w2.cell? ⟨w.heap.size, 3, none⟩ = some (.int .i64 p4) from cell_at hb2); have lj := lt_of_cell j2; clear hb2)
      go_ret
      have hfw := hf0.trans (by rw [hW'.out]; exact hf2)
      exact ⟨rfl, hfw.mono (by simp), h.fr0 hfw⟩
    · by_cases z2 : 1099511627776 < p4
      · rw [decide_eq_false (by omega), if_pos rfl] at hbe
        subst hbe
        clear hr hb
        have hb1' := Lib.hid hb1; have hW' := Lib.hid hW; clear hb1 hW
        go_enter Try.func26, Try.ntmps26
        go_wp2_with (go_at_call 46; refine hwr.mono ?_; rintro e w2 ⟨rfl, hf2⟩; have hb2 := hf2.keep (by rw [← hW'.out]; exact hb1'.out) (by simp); have j2 := (show w2.cell? ⟨w.heap.size, 2, none⟩ = some (.string p3) from cell_at hb2); have j3 := (show w2.cell? ⟨w.heap.size, 3, none⟩ = some (.int .i64 p4) from cell_at hb2); have lj := lt_of_cell j2; clear hb2)
        go_ret
        have hfw := hf0.trans (by rw [hW'.out]; exact hf2)
        exact ⟨rfl, hfw.mono (by simp), h.fr0 hfw⟩
      · rw [decide_eq_true (by omega)] at hbe
        simp only [Bool.true_eq_false, if_false] at hbe
        have hlong : 16 < p3.size := by
          refine Nat.lt_of_not_le fun hle => ?_
          rw [if_neg (by omega)] at hbe
          exact hb hbe
        rw [if_pos hlong] at hbe
        subst hbe
        clear hr hb
        have hb1' := Lib.hid hb1; have hW' := Lib.hid hW; clear hb1 hW
        go_enter Try.func26, Try.ntmps26
        go_wp2_with (go_at_call 46; refine hwr.mono ?_; rintro e w2 ⟨rfl, hf2⟩; have hb2 := hf2.keep (by rw [← hW'.out]; exact hb1'.out) (by simp); have j2 := (show w2.cell? ⟨w.heap.size, 2, none⟩ = some (.string p3) from cell_at hb2); have j3 := (show w2.cell? ⟨w.heap.size, 3, none⟩ = some (.int .i64 p4) from cell_at hb2); have lj := lt_of_cell j2; clear hb2)
        go_ret
        have hfw := hf0.trans (by rw [hW'.out]; exact hf2)
        exact ⟨rfl, hfw.mono (by simp), h.fr0 hfw⟩
  · rw [badPg_of hr] at hbe
    rw [← hbe] at hwr hr
    obtain ⟨p1, p2, p3, p4⟩ := p
    unfold aggPg at hwr ⊢
    dsimp only at *
    rw [hW] at hwr
    have hr1 : (b == 0) = false := by simpa using hr
    have hr2 : (b != 0) = true := by simpa using hr
    clear hr hb hbe
    have hb1' := Lib.hid hb1; have hW' := Lib.hid hW; clear hb1 hW
    go_enter Try.func26, Try.ntmps26
    go_wp2_with (go_at_call 46; refine hwr.mono ?_; rintro e w2 ⟨rfl, hf2⟩; have hb2 := hf2.keep (by rw [← hW'.out]; exact hb1'.out) (by simp); have j2 := (show w2.cell? ⟨w.heap.size, 2, none⟩ = some (.string p3) from cell_at hb2); have j3 := (show w2.cell? ⟨w.heap.size, 3, none⟩ = some (.int .i64 p4) from cell_at hb2); have lj := lt_of_cell j2; clear hb2)
    go_ret
    have hfw := hf0.trans (by rw [hW'.out]; exact hf2)
    exact ⟨rfl, hfw.mono (by simp), h.fr0 hfw⟩
set_option maxRecDepth 100000 in
set_option maxHeartbeats 4000000 in
theorem rset_new {rb n : Nat} {P : List Pg} {w : World} (h : RefC w rb n P) (hl : P.length < 1000000) (hnd : (P.map (·.1)).Nodup) (p : Pg) (hb : badPg p (decide (1 ≤ p.2.2.2 ∧ p.2.2.2 ≤ 1099511627776)) = 0) (ha : atP P p.1 = -1) :
    Calls Try.prog 26 #[.pointer (some ⟨rb, 0, none⟩), aggPg p] w (OutR rb n (putR n P p) w) := by
  obtain ⟨W, hW⟩ : ∃ W, W = w.alloc (.cells #[.int .i64 p.1, .int .i64 p.2.1, .string p.2.2.1, .int .i64 p.2.2.2] 56) := ⟨_, rfl⟩
  have hf0 : Fr [] w W := by rw [hW]; exact (Fr.refl _ _).alloc _
  have hb1 : W.heap[w.heap.size]? = some (.cells #[.int .i64 p.1, .int .i64 p.2.1, .string p.2.2.1, .int .i64 p.2.2.2] 56 (0, 0)) := by rw [hW]; exact heap_alloc_new w _
  have hwr := wrong_any p W
  obtain ⟨hr, hs, hsz⟩ := badPg_zero hb
  simp only [decide_eq_true_eq] at hs
  rw [hr] at hwr
  have hat : ∀ W, Fr [] w W → _ := fun W hW => at_any (h.fr0 hW) hl p.1
  rw [ha] at hat
  have hput : ∀ W, Fr [] w W → _ := fun W hW => rput_any (h.fr0 hW) hl hnd p
  obtain ⟨r, hre⟩ : ∃ r, r = putR n P p := ⟨_, rfl⟩
  rw [← hre] at hput ⊢
  clear hb hr ha hre
  obtain ⟨p1, p2, p3, p4⟩ := p
  unfold aggPg at hwr hput ⊢
  dsimp only at *
  obtain ⟨hs1, hs2⟩ := hs
  rw [hW] at hwr
  have hb1' := Lib.hid hb1; have hW' := Lib.hid hW; have hat' := Lib.hid hat; have hput' := Lib.hid hput
  clear hb1 hW hat hput
  go_enter Try.func26, Try.ntmps26
  go_wp2_with (first | (go_at_call 46; refine hwr.mono ?_; rintro e w2 ⟨rfl, hf2⟩; have hfw := hf0.trans (by rw [hW'.out]; exact hf2); have hb2 := hf2.keep (by rw [← hW'.out]; exact hb1'.out) (by simp); have j0 := (show w2.cell? ⟨w.heap.size, 0, none⟩ = some (.int .i64 p1) from cell_at hb2); have j1 := (show w2.cell? ⟨w.heap.size, 1, none⟩ = some (.int .i64 p2) from cell_at hb2);  have j2 := (show w2.cell? ⟨w.heap.size, 2, none⟩ = some (.string p3) from cell_at hb2); have j3 := (show w2.cell? ⟨w.heap.size, 3, none⟩ = some (.int .i64 p4) from cell_at hb2); have lj := lt_of_cell j2; clear hb2) | (go_at_call 43; refine (hat'.out _ hfw).mono ?_; rintro e w3 ⟨rfl, rfl⟩))
  go_quiet (fail)
  go_wp2_with (go_at_call 47; refine (hput'.out _ (hfw.drewN nq)).mono ?_; rintro e w4 ⟨rfl, hf4, hR4⟩)
  go_ret
  exact ⟨rfl, ((hfw.drewN nq).mono (by simp)).trans hf4, hR4⟩
set_option maxRecDepth 100000 in
set_option maxHeartbeats 4000000 in
theorem rset_found {rb n : Nat} {P : List Pg} {w : World} (h : RefC w rb n P) (hl : P.length < 1000000) (hnd : (P.map (·.1)).Nodup) (p : Pg) (hb : badPg p (decide (1 ≤ p.2.2.2 ∧ p.2.2.2 ≤ 1099511627776)) = 0) {i : Nat} {q : Pg} (ha : atP P p.1 = i) (hi : i < P.length) (hq : P[i]? = some q) :
    Calls Try.prog 26 #[.pointer (some ⟨rb, 0, none⟩), aggPg p] w (OutR rb n (if q.2.1 < p.2.1 then putR n P p else (5, P)) w) := by
  obtain ⟨W, hW⟩ : ∃ W, W = w.alloc (.cells #[.int .i64 p.1, .int .i64 p.2.1, .string p.2.2.1, .int .i64 p.2.2.2] 56) := ⟨_, rfl⟩
  have hf0 : Fr [] w W := by rw [hW]; exact (Fr.refl _ _).alloc _
  have hb1 : W.heap[w.heap.size]? = some (.cells #[.int .i64 p.1, .int .i64 p.2.1, .string p.2.2.1, .int .i64 p.2.2.2] 56 (0, 0)) := by rw [hW]; exact heap_alloc_new w _
  have hwr := wrong_any p W
  obtain ⟨hr, hs, hsz⟩ := badPg_zero hb
  simp only [decide_eq_true_eq] at hs
  rw [hr] at hwr
  have hat : ∀ W, Fr [] w W → _ := fun W hW => at_any (h.fr0 hW) hl p.1
  rw [ha] at hat
  have hput : ∀ W, Fr [] w W → _ := fun W hW => rput_any (h.fr0 hW) hl hnd p
  obtain ⟨r, hre⟩ : ∃ r, r = putR n P p := ⟨_, rfl⟩
  rw [← hre] at hput ⊢
  obtain ⟨a, cap, hro, hc1, hc2, _, hcs⟩ := h.open
  obtain ⟨g, off, rfl, hg1, hg2, hcells⟩ := hcs (by rintro rfl; simp at hi)
  have k1 := hcells i q 1 _ hq rfl
  have k3 := hcells i q 3 _ hq rfl
  rw [← Nat.add_assoc] at k1 k3
  have hf : w.cell? ⟨rb, 0, none⟩ = some (.slice (some ⟨g, off, none⟩) P.length cap) := by rw [cell_at hro]; rfl
  have lr := lt_of_cell hf
  clear hb hr ha hre hcs hcells hq hro
  obtain ⟨p1, p2, p3, p4⟩ := p
  obtain ⟨q1, q2, q3, q4⟩ := q
  unfold aggPg at hwr hput ⊢
  dsimp only at *
  obtain ⟨hs1, hs2⟩ := hs
  rw [hW] at hwr
  have hb1' := Lib.hid hb1; have hW' := Lib.hid hW; have hat' := Lib.hid hat; have hput' := Lib.hid hput
  have k1' := Lib.hid k1; have k3' := Lib.hid k3; have hf' := Lib.hid hf
  clear hb1 hW hat hput k1 k3 hf
  by_cases c2 : q2 < p2
  · rw [if_pos c2]
    have c3 : decide (p2 ≤ q2) = false := by simpa using c2
    go_enter Try.func26, Try.ntmps26
    go_wp2_with (first | (go_at_call 46; refine hwr.mono ?_; rintro e w2 ⟨rfl, hf2⟩; have hfw := hf0.trans (by rw [hW'.out]; exact hf2); have hb2 := hf2.keep (by rw [← hW'.out]; exact hb1'.out) (by simp); have j0 := (show w2.cell? ⟨w.heap.size, 0, none⟩ = some (.int .i64 p1) from cell_at hb2); have j1 := (show w2.cell? ⟨w.heap.size, 1, none⟩ = some (.int .i64 p2) from cell_at hb2);  have j2 := (show w2.cell? ⟨w.heap.size, 2, none⟩ = some (.string p3) from cell_at hb2); have j3 := (show w2.cell? ⟨w.heap.size, 3, none⟩ = some (.int .i64 p4) from cell_at hb2); have lj := lt_of_cell j2; have l1 := (show w2.cell? ⟨g, off + i * 4 + 1, none⟩ = some (.int .i64 q2) from by rw [hfw.cell (p := ⟨g, _, none⟩) hg2 (by simp)]; exact k1'.out); have l0 := (show w2.cell? ⟨rb, 0, none⟩ = some (.slice (some ⟨g, off, none⟩) P.length cap) from by rw [hfw.cell (p := ⟨rb, _, none⟩) lr (by simp)]; exact hf'.out); have lr2 := lt_of_cell l0; clear hb2) | (go_at_call 43; refine (hat'.out _ hfw).mono ?_; rintro e w3 ⟨rfl, rfl⟩))
    go_quiet (fail)
    go_wp2_with (go_at_call 47; refine (hput'.out _ (hfw.drewN nq)).mono ?_; rintro e w4 ⟨rfl, hf4, hR4⟩)
    go_ret
    exact ⟨rfl, ((hfw.drewN nq).mono (by simp)).trans hf4, hR4⟩
  · rw [if_neg c2]
    have c3 : decide (p2 ≤ q2) = true := by simp; omega
    go_enter Try.func26, Try.ntmps26
    go_wp2_with (first | (go_at_call 46; refine hwr.mono ?_; rintro e w2 ⟨rfl, hf2⟩; have hfw := hf0.trans (by rw [hW'.out]; exact hf2); have hb2 := hf2.keep (by rw [← hW'.out]; exact hb1'.out) (by simp); have j0 := (show w2.cell? ⟨w.heap.size, 0, none⟩ = some (.int .i64 p1) from cell_at hb2); have j1 := (show w2.cell? ⟨w.heap.size, 1, none⟩ = some (.int .i64 p2) from cell_at hb2);  have j2 := (show w2.cell? ⟨w.heap.size, 2, none⟩ = some (.string p3) from cell_at hb2); have j3 := (show w2.cell? ⟨w.heap.size, 3, none⟩ = some (.int .i64 p4) from cell_at hb2); have lj := lt_of_cell j2; have l1 := (show w2.cell? ⟨g, off + i * 4 + 1, none⟩ = some (.int .i64 q2) from by rw [hfw.cell (p := ⟨g, _, none⟩) hg2 (by simp)]; exact k1'.out); have l0 := (show w2.cell? ⟨rb, 0, none⟩ = some (.slice (some ⟨g, off, none⟩) P.length cap) from by rw [hfw.cell (p := ⟨rb, _, none⟩) lr (by simp)]; exact hf'.out); have lr2 := lt_of_cell l0; clear hb2) | (go_at_call 43; refine (hat'.out _ hfw).mono ?_; rintro e w3 ⟨rfl, rfl⟩))
    go_quiet (fail)
    go_wp2
    go_ret
    exact ⟨rfl, (hfw.drewN nq).mono (by simp), h.fr0 (hfw.drewN nq)⟩
theorem rset_any {rb n : Nat} {P : List Pg} {w : World} (h : RefC w rb n P) (hl : P.length < 1000000) (hnd : (P.map (·.1)).Nodup) (p : Pg) :
    Calls Try.prog 26 #[.pointer (some ⟨rb, 0, none⟩), aggPg p] w (OutR rb n (setP n P p) w) := by
  by_cases hb : badPg p (decide (1 ≤ p.2.2.2 ∧ p.2.2.2 ≤ 1099511627776)) = 0
  · rcases at_split P hnd p.1 with ⟨ha, hf⟩ | ⟨i, q, ha, hi, hq, hqb, hf, hc⟩
    · have e : setP n P p = putR n P p := putP_ok hb (fun q hq => by rw [hf] at hq; cases hq)
      rw [e]
      exact rset_new h hl hnd p hb ha
    · have e : setP n P p = if q.2.1 < p.2.1 then putR n P p else (5, P) := by
        by_cases hc : q.2.1 < p.2.1
        · rw [if_pos hc]
          exact putP_ok hb (fun q' hq' => by rw [hf] at hq'; cases hq'; simpa using hc)
        · rw [if_neg hc]
          exact putP_old hb hf (by simpa using hc)
      rw [e]
      exact rset_found h hl hnd p hb ha hi hq
  · have e : setP n P p = (badPg p (decide (1 ≤ p.2.2.2 ∧ p.2.2.2 ≤ 1099511627776)), P) := putP_bad rfl hb
    rw [e]
    exact rset_bad h p hb
end Go.Proofs.Ytafeemlojlngfaa
