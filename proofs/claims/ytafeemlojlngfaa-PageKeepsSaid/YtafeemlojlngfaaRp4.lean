/- The reference's pages: put where all is full. -/
import Derived.Test.YtafeemlojlngfaaRp3
namespace Go.Proofs.Ytafeemlojlngfaa
open Go.RowKit Go.Maps Go.Lib Go.Sort
theorem split_at {P : List Pg} {i : Nat} (hi : i < P.length) : P = P.take i ++ P[i] :: P.drop (i + 1) := by rw [List.getElem_cons_drop, List.take_append_drop]
theorem last_none {P : List Pg} (h : ∀ y ∈ P, y.2.2.2 ≠ 0) : lastP P = none := by
  unfold lastP
  rw [List.find?_eq_none]
  intro y hy
  simpa using h y (List.mem_reverse.1 hy)
theorem last_at {P : List Pg} {i : Nat} (hi : i < P.length) (h : ∀ y ∈ P.drop (i + 1), y.2.2.2 ≠ 0) (hz : P[i].2.2.2 = 0) : lastP P = some P[i] := by
  have e : lastP P = lastP (P.take i ++ P[i] :: P.drop (i + 1)) := by rw [← split_at hi]
  rw [e]
  unfold lastP
  rw [List.reverse_append, List.reverse_cons, List.append_assoc, List.find?_append]
  have : (P.drop (i + 1)).reverse.find? (fun p => decide (p.2.2.2 = 0)) = none := by
    rw [List.find?_eq_none]
    intro a ha
    simpa using h a (List.mem_reverse.1 ha)
  rw [this, Option.none_or, List.cons_append, List.find?_cons_of_pos (by simpa using hz)]
theorem cut_at {P : List Pg} (hn : (P.map (·.1)).Nodup) {i : Nat} (hi : i < P.length) : P.take i ++ P.drop (i + 1) = cutP P P[i].1 := by
  have e : cutP P P[i].1 = cutP (P.take i ++ P[i] :: P.drop (i + 1)) P[i].1 := by rw [← split_at hi]
  rw [e]
  unfold cutP
  rw [List.filter_append, List.filter_cons, if_neg (by simp), ← List.filter_append]
  symm
  rw [List.filter_eq_self]
  intro y hy
  rw [split_at hi, List.map_append, List.map_cons] at hn
  have h2 := (List.perm_middle.nodup_iff).1 hn
  rw [List.nodup_cons, ← List.map_append] at h2
  have : y.1 ≠ P[i].1 := fun e => h2.1 (by rw [← e]; exact List.mem_map_of_mem hy)
  simpa using this
def fullP (P : List Pg) (p : Pg) : Int × List Pg := match lastP P with | none => (190, P) | some q => (0, p :: cutP P q.1)
set_option maxRecDepth 100000 in
set_option maxHeartbeats 4000000 in
theorem rput_full {rb n : Nat} {P : List Pg} {w : World} (h : RefC w rb n P) (hl : P.length < 1000000) (hnd : (P.map (·.1)).Nodup) (p : Pg) (ha : atP P p.1 = -1) (hroom : ¬ P.length < n) :
    Calls Try.prog 47 #[.pointer (some ⟨rb, 0, none⟩), aggPg p] w fun e w' => e = .returned (.int .i64 (fullP P p).1) ∧ Fr [rb] w w' ∧ RefC w' rb n (fullP P p).2 := by
  obtain ⟨p1, p2, p3, p4⟩ := p
  unfold aggPg
  dsimp only at ha ⊢
  obtain ⟨W1, hWe⟩ : ∃ W1, W1 = w.alloc (.cells #[.int .i64 p1, .int .i64 p2, .string p3, .int .i64 p4] 56) := ⟨_, rfl⟩
  have hW1 : Fr [] w W1 := by rw [hWe]; exact (Fr.refl _ _).alloc _
  have hR1 := h.fr0 hW1
  have hat := at_any hR1 hl p1
  rw [ha] at hat
  have lr := h.lt
  have b1 : W1.heap[w.heap.size]? = some (.cells #[.int .i64 p1, .int .i64 p2, .string p3, .int .i64 p4] 56 (0, 0)) := by rw [hWe]; exact heap_alloc_new w _
  obtain ⟨a, cap, hr, hc1, hc2, hsl, hcs⟩ := hR1.open
  have hf : W1.cell? ⟨rb, 0, none⟩ = some (.slice a P.length cap) := by rw [cell_at hr]; rfl
  have hf2 : W1.cell? ⟨rb, 1, none⟩ = some (.int .i64 n) := by rw [cell_at hr]; rfl
  have lr1 := lt_of_cell hf
  have lb := lt_of_block b1
  rw [hWe] at hat
  have hR1' := Lib.hid hR1; have b1' := Lib.hid b1; have hcs' := Lib.hid hcs; have hnd' := Lib.hid hnd
  clear ha hR1 b1 hr hsl hcs hnd
  go_enter Try.func47, Try.ntmps47
  go_wp2_with (first | (go_at_call 43; refine hat.mono ?_; rintro e w' ⟨rfl, rfl⟩))
  rw [← hWe]
  clear hWe hat
  go_quiet (fail)
  obtain ⟨W2, hW2⟩ : ∃ W2, W2 = W1.drewN nq := ⟨_, rfl⟩
  have hF : Fr [] W1 W2 := by rw [hW2]; exact (Fr.refl _ _).drewN nq
  have hR2 := hR1'.out.fr0 hF
  have b2 := hF.keep b1'.out (by simp)
  rw [← hW2]
  have g0 : W2.cell? ⟨rb, 0, none⟩ = some (.slice a P.length cap) := by rw [hW2]; exact hf
  have k0' : W2.cell? ⟨w.heap.size, 0, none⟩ = some (.int .i64 p1) := cell_at b2
  have k1' : W2.cell? ⟨w.heap.size, 1, none⟩ = some (.int .i64 p2) := cell_at b2
  have k2' : W2.cell? ⟨w.heap.size, 2, none⟩ = some (.string p3) := cell_at b2
  have k3' : W2.cell? ⟨w.heap.size, 3, none⟩ = some (.int .i64 p4) := cell_at b2
  have lr2 := lt_of_cell g0
  have lb2 := lt_of_cell k0'
  have hcs2 : P ≠ [] → ∃ g off, a = some ⟨g, off, none⟩ ∧ g < W2.heap.size ∧ ∀ i x j u, P[i]? = some x → (encPg x)[j]? = some u → W2.cell? ⟨g, off + (i * 4 + j), none⟩ = some u := by
    intro hne
    obtain ⟨g, off, h1, h2, h3, h4⟩ := hcs'.out hne
    exact ⟨g, off, h1, by rw [hW2]; exact h3, fun i x j u hi hj => by rw [hW2]; exact h4 i x j u hi hj⟩
  have hcs2' := Lib.hid hcs2; have hR2' := Lib.hid hR2; have b2' := Lib.hid b2; have hFw := Lib.hid (hW1.trans hF)
  clear hf hf2 hcs2 hR2 b2 hW2 hF hR1' b1' hcs' lb lr1
  go_wp2
  go_loopg [6] P.length (fun gk kv wr => ∃ k : Int, -1 ≤ k ∧ k < P.length ∧ kv = .int .i64 k ∧ gk = (k + 1).toNat ∧ (∀ y ∈ P.drop (k + 1).toNat, y.2.2.2 ≠ 0) ∧ wr = W2)
  case atStart => exact ⟨(P.length : Int) - 1, by omega, by omega, rfl, by omega, by rw [show ((P.length : Int) - 1 + 1).toNat = P.length from by omega, List.drop_length]; simp, rfl⟩
  case round =>
    obtain ⟨k, hk1, hk2, rfl, hgk, hno, hwe⟩ := hrel
    have hwe := hwe.symm
    subst hwe
    have hgk' := Lib.hid hgk; have hno' := Lib.hid hno
    clear hgk hno
    by_cases hneg : k < 0
    · obtain rfl : k = -1 := by omega
      have hlp := Lib.hid (last_none (P := P) (by simpa using hno'.out))
      go_wp2
      go_ret
      have e : fullP P (p1, p2, p3, p4) = (190, P) := by unfold fullP; rw [hlp.out]
      rw [e]
      exact ⟨rfl, hFw.out.mono (by simp), hR2'.out⟩
    · obtain ⟨i, rfl⟩ : ∃ i : Nat, k = i := ⟨k.toNat, by omega⟩
      have hi : i < P.length := by omega
      obtain ⟨g, off, rfl, hg2, hcells⟩ := hcs2'.out (by rintro rfl; simp at hi)
      have q3 := hcells i _ 3 _ (List.getElem?_eq_getElem hi) rfl
      rw [← Nat.add_assoc] at q3
      obtain ⟨z, hz⟩ : ∃ z, z = P[i].2.2.2 := ⟨_, rfl⟩
      rw [← hz] at q3
      have hz' := Lib.hid hz
      clear hcells hz
      by_cases hz0 : z = 0
      · subst hz0
        have hla := Lib.hid (last_at hi (by have := hno'.out; rwa [show ((i : Int) + 1).toNat = i + 1 from by omega] at this) hz'.out.symm)
        have hwo : ∀ W, Fr [] w W → _ := fun W hW => without_any (h.fr0 hW) hl i hi
        have hwo' := Lib.hid hwo
        have hcl : (P.take i ++ P.drop (i + 1)).length < 1000000 := by rw [List.length_append, List.length_take, List.length_drop]; omega
        clear hwo
        go_wp2
        go_region_with (first | (go_at_call 45; refine (hwo'.out _ hFw.out.drew).mono ?_; rintro e w2 ⟨v, rfl, hf2, hs2⟩; have hfw2 := hFw.out.drew.trans hf2; have hb1 := hf2.keep b2'.out (by simp); have j0 := (show w2.cell? ⟨w.heap.size, 0, none⟩ = some (.int .i64 p1) from cell_at hb1); have j1 := (show w2.cell? ⟨w.heap.size, 1, none⟩ = some (.int .i64 p2) from cell_at hb1); have j2 := (show w2.cell? ⟨w.heap.size, 2, none⟩ = some (.string p3) from cell_at hb1); have j3 := (show w2.cell? ⟨w.heap.size, 3, none⟩ = some (.int .i64 p4) from cell_at hb1); have lj := lt_of_cell j0; have hfr := front_any (h.fr0 hfw2) hs2 hcl (p1, p2, p3, p4); unfold aggPg at hfr; dsimp only at hfr; clear hb1) | (go_at_call 44; refine hfr.mono ?_; rintro e w3 ⟨rfl, hf3, hR3⟩))
        all_goals
          go_wp2
          go_ret
          have hz2 := hfw2.size
          have e : fullP P (p1, p2, p3, p4) = (0, (p1, p2, p3, p4) :: (P.take i ++ P.drop (i + 1))) := by unfold fullP; rw [hla.out, cut_at hnd'.out hi]
          rw [e]
          exact ⟨rfl, (hfw2.mono (by simp)).trans hf3, hR3.refC (by omega)⟩
      · have hz0' : (z == 0) = false := by simpa using hz0
        go_wp2
        go_roundg i
        case rel => exact ⟨(i : Int) - 1, by omega, by omega, rfl, by omega, by
          rw [show ((i : Int) - 1 + 1).toNat = i from by omega]
          have h1 := hno'.out
          rw [show ((i : Int) + 1).toNat = i + 1 from by omega] at h1
          intro y hy
          rw [← List.getElem_cons_drop (h := hi)] at hy
          rcases List.mem_cons.1 hy with rfl | hy
          · rw [← hz'.out]; exact hz0
          · exact h1 y hy, rfl⟩
        case measure => rw [hgk'.out]; omega
end Go.Proofs.Ytafeemlojlngfaa
