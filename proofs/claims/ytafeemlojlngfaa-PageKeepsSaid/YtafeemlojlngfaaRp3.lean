/- The reference's pages: wrong; put where the block has a page, or where there is room. -/
import Derived.Test.YtafeemlojlngfaaRp2
namespace Go.Proofs.Ytafeemlojlngfaa
open Go.RowKit Go.Maps Go.Lib Go.Sort
def badR (p : Pg) : Int := if p.1 < 0 ∨ 256 ≤ p.1 then 71 else if p.2.1 < 0 ∨ 1099511627776 < p.2.1 then 1 else 0
set_option maxRecDepth 100000 in
set_option maxHeartbeats 2000000 in
theorem wrong_any (p : Pg) (w : World) : Calls Try.prog 46 #[aggPg p] w fun e w' => e = .returned (.int .i64 (badR p)) ∧ Fr [] w w' := by
  obtain ⟨p1, p2, p3, p4⟩ := p
  unfold badR aggPg
  dsimp only
  by_cases c1 : p1 < 0
  · rw [if_pos (.inl c1)]
    go_enter Try.func46, Try.ntmps46
    go_wp2
    go_ret
    exact ⟨rfl, (Fr.refl _ _).alloc _⟩
  · by_cases c2 : 256 ≤ p1
    · rw [if_pos (.inr c2)]
      go_enter Try.func46, Try.ntmps46
      go_wp2
      go_ret
      exact ⟨rfl, (Fr.refl _ _).alloc _⟩
    · rw [if_neg (by omega)]
      by_cases c3 : p2 < 0
      · rw [if_pos (.inl c3)]
        go_enter Try.func46, Try.ntmps46
        go_wp2
        go_ret
        exact ⟨rfl, (Fr.refl _ _).alloc _⟩
      · by_cases c4 : 1099511627776 < p2
        · rw [if_pos (.inr c4)]
          go_enter Try.func46, Try.ntmps46
          go_wp2
          go_ret
          exact ⟨rfl, (Fr.refl _ _).alloc _⟩
        · rw [if_neg (by omega)]
          go_enter Try.func46, Try.ntmps46
          go_wp2
          go_ret
          exact ⟨rfl, (Fr.refl _ _).alloc _⟩
set_option maxRecDepth 100000 in
set_option maxHeartbeats 4000000 in
theorem rput_found {rb n : Nat} {P : List Pg} {w : World} (h : RefC w rb n P) (hl : P.length < 1000000) (p : Pg) (i : Nat) (hi : i < P.length) (ha : atP P p.1 = i) :
    Calls Try.prog 47 #[.pointer (some ⟨rb, 0, none⟩), aggPg p] w fun e w' => e = .returned (.int .i64 0) ∧ Fr [rb] w w' ∧ RefC w' rb n (p :: (P.take i ++ P.drop (i + 1))) := by
  obtain ⟨p1, p2, p3, p4⟩ := p
  unfold aggPg
  dsimp only at ha ⊢
  obtain ⟨W1, hWe⟩ : ∃ W1, W1 = w.alloc (.cells #[.int .i64 p1, .int .i64 p2, .string p3, .int .i64 p4] 56) := ⟨_, rfl⟩
  have hW1 : Fr [] w W1 := by rw [hWe]; exact (Fr.refl _ _).alloc _
  have hR1 := h.fr0 hW1
  have hat := at_any hR1 hl p1
  rw [ha] at hat
  have hwo : ∀ W, Fr [] w W → _ := fun W hW => without_any (h.fr0 hW) hl i hi
  have hwo' := Lib.hid hwo
  have hcl : (P.take i ++ P.drop (i + 1)).length < 1000000 := by rw [List.length_append, List.length_take, List.length_drop]; omega
  have lr := h.lt
  have b1 : W1.heap[w.heap.size]? = some (.cells #[.int .i64 p1, .int .i64 p2, .string p3, .int .i64 p4] 56 (0, 0)) := by rw [hWe]; exact heap_alloc_new w _
  have k0' : W1.cell? ⟨w.heap.size, 0, none⟩ = some (.int .i64 p1) := cell_at b1
  have k1' : W1.cell? ⟨w.heap.size, 1, none⟩ = some (.int .i64 p2) := cell_at b1
  have k2' : W1.cell? ⟨w.heap.size, 2, none⟩ = some (.string p3) := cell_at b1
  have k3' : W1.cell? ⟨w.heap.size, 3, none⟩ = some (.int .i64 p4) := cell_at b1
  have lb : w.heap.size < W1.heap.size := lt_of_cell k0'
  have hnr : w.heap.size ∉ [rb] := by simp; omega
  have b1' := Lib.hid b1
  rw [hWe] at hat
  clear hwo ha hR1 b1
  go_enter Try.func47, Try.ntmps47
  go_wp2_with (first | (go_at_call 43; refine hat.mono ?_; rintro e w' ⟨rfl, rfl⟩))
  rw [← hWe]
  clear hWe hat
  go_region_with (first | (go_at_call 45; refine (hwo'.out _ hW1.drew).mono ?_; rintro e w2 ⟨v, rfl, hf2, hs2⟩; have hfw2 := hW1.drew.trans hf2; have hb1 := hf2.keep (a := W1.drew) b1'.out (by simp); have j0 := (show w2.cell? ⟨w.heap.size, 0, none⟩ = some (.int .i64 p1) from cell_at hb1); have j1 := (show w2.cell? ⟨w.heap.size, 1, none⟩ = some (.int .i64 p2) from cell_at hb1); have j2 := (show w2.cell? ⟨w.heap.size, 2, none⟩ = some (.string p3) from cell_at hb1); have j3 := (show w2.cell? ⟨w.heap.size, 3, none⟩ = some (.int .i64 p4) from cell_at hb1); have lj := lt_of_cell j0; have hfr := front_any (h.fr0 hfw2) hs2 hcl (p1, p2, p3, p4); unfold aggPg at hfr; dsimp only at hfr; clear hb1) | (go_at_call 44; refine hfr.mono ?_; rintro e w3 ⟨rfl, hf3, hR3⟩))
  all_goals
    go_wp2
    go_ret
    have hz2 := hfw2.size
    exact ⟨rfl, (hfw2.mono (by simp)).trans hf3, hR3.refC (by omega)⟩
set_option maxRecDepth 100000 in
set_option maxHeartbeats 4000000 in
theorem rput_room {rb n : Nat} {P : List Pg} {w : World} (h : RefC w rb n P) (hl : P.length < 1000000) (p : Pg) (ha : atP P p.1 = -1) (hroom : P.length < n) :
    Calls Try.prog 47 #[.pointer (some ⟨rb, 0, none⟩), aggPg p] w fun e w' => e = .returned (.int .i64 0) ∧ Fr [rb] w w' ∧ RefC w' rb n (p :: P) := by
  obtain ⟨p1, p2, p3, p4⟩ := p
  unfold aggPg
  dsimp only at ha ⊢
  obtain ⟨W1, hWe⟩ : ∃ W1, W1 = w.alloc (.cells #[.int .i64 p1, .int .i64 p2, .string p3, .int .i64 p4] 56) := ⟨_, rfl⟩
  have hW1 : Fr [] w W1 := by rw [hWe]; exact (Fr.refl _ _).alloc _
  have hR1 := h.fr0 hW1
  have hat := at_any hR1 hl p1
  rw [ha] at hat
  have lr := h.lt
  have b1 : W1.heap[w.heap.size]? = some (.cells #[.int .i64 p1, .int .i64 p2, .string p3, .int .i64 p4] 56 (0, 0)) := by rw [hWe]; exact heap_alloc_new w _
  have k0' : W1.cell? ⟨w.heap.size, 0, none⟩ = some (.int .i64 p1) := cell_at b1
  have k1' : W1.cell? ⟨w.heap.size, 1, none⟩ = some (.int .i64 p2) := cell_at b1
  have k2' : W1.cell? ⟨w.heap.size, 2, none⟩ = some (.string p3) := cell_at b1
  have k3' : W1.cell? ⟨w.heap.size, 3, none⟩ = some (.int .i64 p4) := cell_at b1
  have lb : w.heap.size < W1.heap.size := lt_of_cell k0'
  obtain ⟨a, cap, hr, hc1, hc2, hsl, _⟩ := hR1.open
  have hf : W1.cell? ⟨rb, 0, none⟩ = some (.slice a P.length cap) := by rw [cell_at hr]; rfl
  have hf2 : W1.cell? ⟨rb, 1, none⟩ = some (.int .i64 n) := by rw [cell_at hr]; rfl
  have lr1 := lt_of_cell hf
  have hfr : ∀ W, Fr [] W1 W → _ := fun W hW => front_any (hR1.fr0 hW) (hsl.fr hW (by simp)) hl (p1, p2, p3, p4)
  have hfr' := Lib.hid hfr
  unfold aggPg at hfr'
  dsimp only at hfr'
  rw [hWe] at hat
  clear ha hR1 b1 hr hsl hfr
  go_enter Try.func47, Try.ntmps47
  go_wp2_with (first | (go_at_call 43; refine hat.mono ?_; rintro e w' ⟨rfl, rfl⟩))
  rw [← hWe]
  clear hWe hat
  go_quiet (fail)
  go_wp2
  go_region_with (first | (go_at_call 44; refine (hfr'.out _ (by first | exact ((Fr.refl [] W1).drewN nq).drew | exact ((Fr.refl [] W1).drewN nq))).mono ?_; rintro e w3 ⟨rfl, hf3, hR3⟩))
  all_goals
    go_wp2
    go_ret
    have hz2 := hW1.size
    exact ⟨rfl, (hW1.mono (by simp)).trans ((((Fr.refl [rb] W1).drewN nq).drew).trans hf3), hR3.refC (by simp [World.drewN]; omega)⟩
end Go.Proofs.Ytafeemlojlngfaa
