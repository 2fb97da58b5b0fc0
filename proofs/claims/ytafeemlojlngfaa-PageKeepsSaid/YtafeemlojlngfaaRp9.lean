/- The reference's pages: Drop. -/
import Derived.Test.YtafeemlojlngfaaRp8
import Derived.StillTailTactics
namespace Go.Proofs.Ytafeemlojlngfaa
open Go.RowKit Go.Maps Go.Lib Go.Sort
set_option maxHeartbeats 1000000 in
theorem rin_any (r1 r2 b : Int) (w : World) : Calls Try.prog 48 #[.agg #[.int .i64 r1, .int .i64 r2], .int .i64 b] w fun e w' => e = .returned (.bool (inR r1 r2 b)) ∧ Fr [] w w' := by
  obtain ⟨v, hv⟩ : ∃ v, v = inR r1 r2 b := ⟨_, rfl⟩
  rw [← hv]
  unfold inR at hv
  by_cases h1 : r1 ≤ b
  · by_cases h2 : b < r2
    · rw [decide_eq_true (show r1 ≤ b ∧ b < r2 from ⟨h1, h2⟩)] at hv
      have hv' := Lib.hid hv; clear hv
      go_enter Try.func48, Try.ntmps48
      go_wp2
      go_ret
      exact ⟨by rw [hv'.out]; rfl, (Fr.refl _ _).alloc _⟩
    · rw [decide_eq_false (show ¬ (r1 ≤ b ∧ b < r2) from fun hh => h2 hh.2)] at hv
      have hv' := Lib.hid hv; clear hv
      go_enter Try.func48, Try.ntmps48
      go_wp2
      go_ret
      exact ⟨by rw [hv'.out]; rfl, (Fr.refl _ _).alloc _⟩
  · rw [decide_eq_false (show ¬ (r1 ≤ b ∧ b < r2) from fun hh => h1 hh.1)] at hv
    have hv' := Lib.hid hv; clear hv
    go_enter Try.func48, Try.ntmps48
    go_wp2
    go_ret
    exact ⟨by rw [hv'.out]; rfl, (Fr.refl _ _).alloc _⟩
theorem drop_snoc {P : List Pg} {i : Nat} {x : Pg} {r1 r2 : Int} (h : P[i]? = some x) : (P.take (i + 1)).filter (fun p => !inR r1 r2 p.1) = if inR r1 r2 x.1 = true then (P.take i).filter (fun p => !inR r1 r2 p.1) else (P.take i).filter (fun p => !inR r1 r2 p.1) ++ [x] := by
  rw [List.take_add_one, h, List.filter_append]
  cases hx : inR r1 r2 x.1 <;> simp [hx]
theorem dropP_yes {P : List Pg} {i : Nat} {x : Pg} {r1 r2 : Int} (h : P[i]? = some x) (h1 : inR r1 r2 x.1 = true) (h2 : x.2.2.2 ≠ 0) : dropP P r1 r2 = ((0, 190), P) := by
  unfold dropP dropDirty
  rw [if_pos]
  rw [List.any_eq_true]
  exact ⟨x, List.mem_of_getElem? h, by simp [h1, h2]⟩
theorem filter_two {P : List Pg} (f : Pg → Bool) : (P.filter f).length + (P.filter fun p => !f p).length = P.length := by
  induction P with
  | nil => rfl
  | cons p P ih => cases h : f p <;> simp [h] <;> omega
theorem dropP_no {P : List Pg} {r1 r2 : Int} (h : dropDirty P r1 r2 = false) : dropP P r1 r2 = (((P.length : Int) - (P.filter fun p => !inR r1 r2 p.1).length, 0), P.filter fun p => !inR r1 r2 p.1) := by
  unfold dropP
  rw [if_neg (by rw [h]; simp)]
  have := filter_two (P := P) (fun p => inR r1 r2 p.1)
  congr 2
  omega
def OutR2 (rb n : Nat) (r : (Int × Int) × List Pg) (w : World) (e : Ending) (w' : World) : Prop := e = .returned (.tuple #[.int .i64 r.1.1, .int .i64 r.1.2]) ∧ Fr [rb] w w' ∧ RefC w' rb n r.2
set_option maxRecDepth 100000 in
set_option maxHeartbeats 4000000 in
theorem rdrop_any {rb n : Nat} {P : List Pg} {w : World} (h : RefC w rb n P) (hl : P.length < 1000000) (r1 r2 : Int) :
    Calls Try.prog 28 #[.pointer (some ⟨rb, 0, none⟩), .agg #[.int .i64 r1, .int .i64 r2]] w (OutR2 rb n (dropP P r1 r2) w) := by
  obtain ⟨a, cap, hro, hc1, hc2, hsl, hat⟩ := h.open
  have hfd : w.cell? ⟨rb, 0, none⟩ = some (.slice a P.length cap) := by rw [cell_at hro]; rfl
  have lr := lt_of_cell hfd
  have hat' := Lib.hid hat; have hro' := Lib.hid hro
  obtain ⟨W, hW⟩ : ∃ W, W = w.alloc (.cells #[.int .i64 r1, .int .i64 r2] 33) := ⟨_, rfl⟩
  have hf0 : Fr [] w W := by rw [hW]; exact (Fr.refl _ _).alloc _
  have hbx : W.heap[w.heap.size]? = some (.cells #[.int .i64 r1, .int .i64 r2] 33 (0, 0)) := by rw [hW]; exact heap_alloc_new w _
  have hbx' := Lib.hid hbx; have hW' := Lib.hid hW
  obtain ⟨W1, hW1⟩ : ∃ W1, W1 = W.alloc (.cells #[] 56) := ⟨_, rfl⟩
  have hf1 : Fr [] W W1 := by rw [hW1]; exact (Fr.refl _ _).alloc _
  have hW1' := Lib.hid hW1
  have hWs : W.heap.size = w.heap.size + 1 := by rw [hW]; simp
  have hown0 : W1.ownsRow (w.heap.size + 1) 56 4 (.slice (some ⟨w.heap.size + 1, 0, none⟩) 0 0) ([] : List Pg).length (([] : List Pg).flatMap encPg) := by
    rw [hW1, ← hWs]; exact World.ownsRow_made W #[] 0 (Nat.le_refl _) (Nat.zero_le _) rfl
  have hWs' := Lib.hid hWs
  clear hat hro hW hbx hW1 hsl hWs
  go_enter Try.func28, Try.ntmps28
  go_wp2
  rw [← hW'.out, ← hW1'.out]
  have hfw := hf0
  go_loopg [6, 7] P.length (fun gk lv iv wr => ∃ i : Nat, i ≤ P.length ∧ gk = P.length - i ∧ iv = .int .i64 i ∧ wr.ownsRow (w.heap.size + 1) 56 4 lv ((P.take i).filter fun p => !inR r1 r2 p.1).length (((P.take i).filter fun p => !inR r1 r2 p.1).flatMap encPg) ∧ dropDirty (P.take i) r1 r2 = false ∧ Fr [] W wr)
  case atStart => exact ⟨0, Nat.zero_le _, rfl, rfl, hown0, rfl, hf1⟩
  case round =>
    obtain ⟨i, hi, hgk, rfl, hown, hno, hfr⟩ := hrel
    have hgk' := Lib.hid hgk; have hno' := Lib.hid hno
    clear hgk hno
    have r0 : wr.cell? ⟨rb, 0, none⟩ = some (.slice a P.length cap) := by rw [(hfw.trans hfr).cell (p := ⟨rb, 0, none⟩) lr (by simp)]; exact hfd
    have lr0 := lt_of_cell r0
    have hbr := hfr.keep hbx'.out (by simp)
    have b0 : wr.cell? ⟨w.heap.size, 0, none⟩ = some (.int .i64 r1) := cell_at hbr
    have b1 : wr.cell? ⟨w.heap.size, 1, none⟩ = some (.int .i64 r2) := cell_at hbr
    have lb0 := lt_of_cell b0
    clear hbr
    by_cases hlt : i < P.length
    · obtain ⟨g, off, rfl, hg1, hg2, hcells⟩ := hat'.out (by rintro rfl; simp at hlt)
      obtain ⟨x, hx⟩ : ∃ x, P[i]? = some x := ⟨_, List.getElem?_eq_getElem hlt⟩
      have hc : ∀ j u, (encPg x)[j]? = some u → wr.cell? ⟨g, off + i * 4 + j, none⟩ = some u := fun j u hj => by rw [(hfw.trans hfr).cell (p := ⟨g, _, none⟩) hg2 (by simp), Nat.add_assoc]; exact hcells i x j u hx hj
      have k0 := hc 0 _ rfl
      have k1 := hc 1 _ rfl
      have k2 := hc 2 _ rfl
      have k3 := hc 3 _ rfl
      rw [Nat.add_zero] at k0
      obtain ⟨x1, x2, x3, x4⟩ := x
      dsimp only at k0 k1 k2 k3
      have hx' := Lib.hid hx
      have hsn := Lib.hid (drop_snoc (r1 := r1) (r2 := r2) hx)
      clear hcells hx hc
      have hin := rin_any r1 r2 x1
      cases hb : inR r1 r2 x1 with
      | true =>
        rw [hb] at hin
        have hb' := Lib.hid hb; clear hb
        by_cases hz : x4 = 0
        · subst hz
          go_wp2
          go_still_tail 9, (by kernel_rfl)
          go_wp2_with (go_at_call 48; refine (hin _).mono ?_; rintro e w2 ⟨rfl, hf2⟩; have hF : Fr [] wr w2 := ((Fr.refl [] wr).drew).trans hf2; have m0 := (show w2.cell? ⟨g, off + i * 4, none⟩ = some (.int .i64 x1) from by rw [hF.cell (p := ⟨g, _, none⟩) (lt_of_cell k0) (by simp)]; exact k0); have m1 := (show w2.cell? ⟨g, off + i * 4 + 1, none⟩ = some (.int .i64 x2) from by rw [hF.cell (p := ⟨g, _, none⟩) (lt_of_cell k0) (by simp)]; exact k1); have m2 := (show w2.cell? ⟨g, off + i * 4 + 2, none⟩ = some (.string x3) from by rw [hF.cell (p := ⟨g, _, none⟩) (lt_of_cell k0) (by simp)]; exact k2); have m3 := (show w2.cell? ⟨g, off + i * 4 + 3, none⟩ = some (.int .i64 0) from by rw [hF.cell (p := ⟨g, _, none⟩) (lt_of_cell k0) (by simp)]; exact k3); have q0 := (show w2.cell? ⟨rb, 0, none⟩ = some (.slice (some ⟨g, off, none⟩) P.length cap) from by rw [hF.cell (p := ⟨rb, _, none⟩) lr0 (by simp)]; exact r0); have lq := lt_of_cell q0; have lm := lt_of_cell m0)
          go_roundg (P.length - (i + 1))
          case rel => exact ⟨i + 1, by omega, rfl, by go_num, by rw [hsn.out, hb'.out, if_pos rfl]; exact owns_fr hown hF (by simp), any_take_succ hx'.out hno'.out (by simp), hfr.trans hF⟩
          case measure => rw [hgk'.out]; omega
        · have hz' : (x4 != 0) = true := by simpa using hz
          go_wp2
          go_still_tail 9, (by kernel_rfl)
          go_wp2_with (go_at_call 48; refine (hin _).mono ?_; rintro e w2 ⟨rfl, hf2⟩; have hF : Fr [] wr w2 := ((Fr.refl [] wr).drew).trans hf2; have m0 := (show w2.cell? ⟨g, off + i * 4, none⟩ = some (.int .i64 x1) from by rw [hF.cell (p := ⟨g, _, none⟩) (lt_of_cell k0) (by simp)]; exact k0); have m1 := (show w2.cell? ⟨g, off + i * 4 + 1, none⟩ = some (.int .i64 x2) from by rw [hF.cell (p := ⟨g, _, none⟩) (lt_of_cell k0) (by simp)]; exact k1); have m2 := (show w2.cell? ⟨g, off + i * 4 + 2, none⟩ = some (.string x3) from by rw [hF.cell (p := ⟨g, _, none⟩) (lt_of_cell k0) (by simp)]; exact k2); have m3 := (show w2.cell? ⟨g, off + i * 4 + 3, none⟩ = some (.int .i64 x4) from by rw [hF.cell (p := ⟨g, _, none⟩) (lt_of_cell k0) (by simp)]; exact k3); have q0 := (show w2.cell? ⟨rb, 0, none⟩ = some (.slice (some ⟨g, off, none⟩) P.length cap) from by rw [hF.cell (p := ⟨rb, _, none⟩) lr0 (by simp)]; exact r0); have lq := lt_of_cell q0; have lm := lt_of_cell m0)
          go_ret2
          have hv := dropP_yes hx'.out hb'.out hz
          rw [hv]
          exact ⟨rfl, ((hfw.trans hfr).trans hF).mono (by simp), h.fr0 ((hfw.trans hfr).trans hF)⟩
      | false =>
        rw [hb] at hin
        have hb' := Lib.hid hb; clear hb
        have hal : ((P.take i).filter fun p => !inR r1 r2 p.1).length < 1000000 := by
          have := List.length_filter_le (fun p : Pg => !inR r1 r2 p.1) (P.take i)
          rw [List.length_take] at this; omega
        obtain ⟨A, hA⟩ : ∃ A, A = (P.take i).filter fun p => !inR r1 r2 p.1 := ⟨_, rfl⟩
        rw [← hA] at hown hal
        have hA' := Lib.hid hA; clear hA
        have hzr := (hfw.trans hfr).size
        have hzw := hfr.size
        rw [hWs'.out] at hzw
        go_wp2
        go_still_tail 9, (by kernel_rfl)
        go_wp2_with (first | (go_at_call 48; refine (hin _).mono ?_; rintro e w2 ⟨rfl, hf2⟩; have hF : Fr [] wr w2 := ((Fr.refl [] wr).drew).trans hf2; have m0 := (show w2.cell? ⟨g, off + i * 4, none⟩ = some (.int .i64 x1) from by rw [hF.cell (p := ⟨g, _, none⟩) (lt_of_cell k0) (by simp)]; exact k0); have m1 := (show w2.cell? ⟨g, off + i * 4 + 1, none⟩ = some (.int .i64 x2) from by rw [hF.cell (p := ⟨g, _, none⟩) (lt_of_cell k0) (by simp)]; exact k1); have m2 := (show w2.cell? ⟨g, off + i * 4 + 2, none⟩ = some (.string x3) from by rw [hF.cell (p := ⟨g, _, none⟩) (lt_of_cell k0) (by simp)]; exact k2); have m3 := (show w2.cell? ⟨g, off + i * 4 + 3, none⟩ = some (.int .i64 x4) from by rw [hF.cell (p := ⟨g, _, none⟩) (lt_of_cell k0) (by simp)]; exact k3); have q0 := (show w2.cell? ⟨rb, 0, none⟩ = some (.slice (some ⟨g, off, none⟩) P.length cap) from by rw [hF.cell (p := ⟨rb, _, none⟩) lr0 (by simp)]; exact r0); have lq := lt_of_cell q0; have lm := lt_of_cell m0; have hown2 := owns_fr hown hF (by simp); have hz2 := hF.size) | (at_builtin; (refine wpList_push w2 _ _ rfl _ _ 37 rfl (w.heap.size + 1) 56 Try.underlying37 infoRP rfl (by omega) u6 A rfl hown2 (x1, x2, x3, x4) rfl encPg_len (enc1 _) rfl (by omega) (by omega) (by omega) ?_; intro v' w3 hown3 hf3)))
        have hob := hown2.lt
        go_roundg (P.length - (i + 1))
        case rel => exact ⟨i + 1, by omega, rfl, by go_num, by rw [hsn.out, hb'.out, if_neg (by simp), ← hA'.out]; exact hown3, any_take_succ hx'.out hno'.out (by simp [hb'.out]), (hfr.trans hF).andThen hf3 (fun t ht => .inr (by have := hob t (by simpa using ht); have h2 := hWs'.out; omega))⟩
        case measure => rw [hgk'.out]; omega
    · have he : i = P.length := by omega
      subst he
      rw [List.take_length] at hown
      have hno2 := hno'.out
      rw [List.take_length] at hno2
      have hv := Lib.hid (dropP_no hno2)
      have hal : (P.filter fun p => !inR r1 r2 p.1).length ≤ P.length := List.length_filter_le _ _
      obtain ⟨A, hA⟩ : ∃ A, A = P.filter fun p => !inR r1 r2 p.1 := ⟨_, rfl⟩
      rw [← hA] at hown hal hv
      have hsl := SliceIs.of_owns hown rfl
      obtain ⟨a1, cap1, rfl, hd1, hd2, _⟩ := id hsl
      have hr1 := (hfw.trans hfr).keep hro'.out (by simp)
      have rz : wr.frozen? ⟨rb, 0, none⟩ = false := frozen_at hr1
      have hr1' := Lib.hid hr1
      clear hno2 hA hr1
      go_wp2
      go_ret2
      rw [hv.out]
      refine ⟨rfl, ((hfw.trans hfr).mono (by simp)).setCell ⟨rb, 0, none⟩ _ (.inl (by simp)), _, setCell_at hr1'.out _, ?_⟩
      exact owns_base (owns_fr hown (T := [rb]) ((Fr.refl [rb] wr).setCell ⟨rb, 0, none⟩ _ (.inl (by simp))) (by simp; omega)) (Nat.zero_le _)
end Go.Proofs.Ytafeemlojlngfaa
