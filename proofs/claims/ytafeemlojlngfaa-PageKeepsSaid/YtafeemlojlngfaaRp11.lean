/- The reference's pages: Dirty. -/
import Derived.Test.YtafeemlojlngfaaRp10
namespace Go.Proofs.Ytafeemlojlngfaa
open Go.RowKit Go.Maps Go.Lib Go.Sort
set_option maxRecDepth 100000 in
set_option maxHeartbeats 8000000 in
theorem rdirty_any {rb n : Nat} {P : List Pg} {w : World} (h : RefC w rb n P) (hl : P.length < 100000) (r1 r2 : Int) :
    Calls Try.prog 29 #[.pointer (some ⟨rb, 0, none⟩), .agg #[.int .i64 r1, .int .i64 r2]] w fun e w' => ∃ v, e = .returned v ∧ Fr [] w w' ∧ SliceIs w' (w.heap.size ≤ ·) encPg v (dirtyP P r1 r2) := by
  obtain ⟨a, cap, hro, hc1, hc2, hsl, hat⟩ := h.open
  have hfd : w.cell? ⟨rb, 0, none⟩ = some (.slice a P.length cap) := by rw [cell_at hro]; rfl
  have lr := lt_of_cell hfd
  have hat' := Lib.hid hat
  obtain ⟨W, hW⟩ : ∃ W, W = w.alloc (.cells #[.int .i64 r1, .int .i64 r2] 33) := ⟨_, rfl⟩
  have hf0 : Fr [] w W := by rw [hW]; exact (Fr.refl _ _).alloc _
  have hbx : W.heap[w.heap.size]? = some (.cells #[.int .i64 r1, .int .i64 r2] 33 (0, 0)) := by rw [hW]; exact heap_alloc_new w _
  have hbx' := Lib.hid hbx; have hW' := Lib.hid hW
  obtain ⟨W1, hW1⟩ : ∃ W1, W1 = W.alloc (.cells #[] 56) := ⟨_, rfl⟩
  have hf1 : Fr [] W W1 := by rw [hW1]; exact (Fr.refl _ _).alloc _
  have hW1' := Lib.hid hW1
  have hWs : W.heap.size = w.heap.size + 1 := by rw [hW]; simp
  have hown0 : W1.ownsRow (w.heap.size + 1) 56 4 (.slice (some ⟨w.heap.size + 1, 0, none⟩) 0 0) (dirtyP (P.take 0) r1 r2).length ((dirtyP (P.take 0) r1 r2).flatMap encPg) := by
    rw [hW1, ← hWs]; exact World.ownsRow_made W #[] 0 (Nat.le_refl _) (Nat.zero_le _) rfl
  have hWs' := Lib.hid hWs
  clear hat hro hW hbx hW1 hsl hWs
  go_enter Try.func29, Try.ntmps29
  go_wp2
  rw [← hW'.out, ← hW1'.out]
  go_loopg [5, 6] P.length (fun gk lv iv wr => ∃ i : Nat, i ≤ P.length ∧ gk = P.length - i ∧ iv = .int .i64 i ∧ wr.ownsRow (w.heap.size + 1) 56 4 lv (dirtyP (P.take i) r1 r2).length ((dirtyP (P.take i) r1 r2).flatMap encPg) ∧ Fr [] W wr)
  case atStart => exact ⟨0, Nat.zero_le _, rfl, rfl, hown0, hf1⟩
  case round =>
    obtain ⟨i, hi, hgk, rfl, hown, hfr⟩ := hrel
    have hgk' := Lib.hid hgk
    clear hgk hown0
    have r0 : wr.cell? ⟨rb, 0, none⟩ = some (.slice a P.length cap) := by rw [(hf0.trans hfr).cell (p := ⟨rb, 0, none⟩) lr (by simp)]; exact hfd
    have lr0 := lt_of_cell r0
    have hbr := hfr.keep hbx'.out (by simp)
    have b0 : wr.cell? ⟨w.heap.size, 0, none⟩ = some (.int .i64 r1) := cell_at hbr
    have b1 : wr.cell? ⟨w.heap.size, 1, none⟩ = some (.int .i64 r2) := cell_at hbr
    have lb0 := lt_of_cell b0
    clear hbr
    by_cases hlt : i < P.length
    · obtain ⟨g, off, rfl, hg1, hg2, hcells⟩ := hat'.out (by rintro rfl; simp at hlt)
      obtain ⟨x, hx⟩ : ∃ x, P[i]? = some x := ⟨_, List.getElem?_eq_getElem hlt⟩
      have hc : ∀ j u, (encPg x)[j]? = some u → wr.cell? ⟨g, off + i * 4 + j, none⟩ = some u := fun j u hj => by rw [(hf0.trans hfr).cell (p := ⟨g, _, none⟩) hg2 (by simp), Nat.add_assoc]; exact hcells i x j u hx hj
      have k0 := hc 0 _ rfl
      have k1 := hc 1 _ rfl
      have k2 := hc 2 _ rfl
      have k3 := hc 3 _ rfl
      rw [Nat.add_zero] at k0
      obtain ⟨x1, x2, x3, x4⟩ := x
      dsimp only at k0 k1 k2 k3
      have hx' := Lib.hid hx
      have hsn := Lib.hid (dirtyP_snoc (r1 := r1) (r2 := r2) hx)
      have hDl : (dirtyP (P.take i) r1 r2).length ≤ P.length := Nat.le_trans (dirtyP_len _ _ _) (by rw [List.length_take]; omega)
      obtain ⟨D, hD⟩ : ∃ D, D = dirtyP (P.take i) r1 r2 := ⟨_, rfl⟩
      rw [← hD] at hown hsn hDl
      obtain ⟨ad, capD, rfl, _, _, hatD⟩ := (SliceIs.of_owns hown rfl).at encPg_len
      have hatD' := Lib.hid hatD; clear hatD
      have hD' := Lib.hid hD
      clear hcells hx hc hD
      have hin := rin_any r1 r2 x1
      have hFa : Fr [] wr (wr.alloc (.cells #[.int .i64 x1, .int .i64 x2, .string x3, .int .i64 x4] 56)) := (Fr.refl _ _).alloc _
      by_cases hz : x4 = 0
      · subst hz
        go_wp2
        go_roundg (P.length - (i + 1))
        case rel => exact ⟨i + 1, by omega, rfl, by go_num, by rw [hsn.out, if_neg (by simp)]; exact owns_fr hown hFa (by simp), hfr.trans hFa⟩
        case measure => rw [hgk'.out]; omega
      · have hz' : (x4 == 0) = false := by simpa using hz
        cases hb : inR r1 r2 x1 with
        | false =>
          rw [hb] at hin
          have hb' := Lib.hid hb; clear hb
          go_wp2_with (go_at_call 48; refine (hin _).mono ?_; rintro e w2 ⟨rfl, hf2⟩; have hF := hFa.trans hf2)
          go_roundg (P.length - (i + 1))
          case rel => exact ⟨i + 1, by omega, rfl, by go_num, by rw [hsn.out, hb'.out, if_neg (by simp)]; exact owns_fr hown hF (by simp), hfr.trans hF⟩
          case measure => rw [hgk'.out]; omega
        | true =>
          rw [hb] at hin
          have hb' := Lib.hid hb; clear hb
          go_wp2_with (go_at_call 48; refine (hin _).mono ?_; rintro e w2 ⟨rfl, hf2⟩; have hF := hFa.trans hf2)
          have hbp : w2.heap[wr.heap.size]? = some (.cells #[.int .i64 x1, .int .i64 x2, .string x3, .int .i64 x4] 56 (0, 0)) := hf2.keep (heap_alloc_new wr _) (by simp)
          have hbp' := Lib.hid hbp
          have hF2 : Fr [] w2 (w2.alloc (.cells #[] 56)) := (Fr.refl _ _).alloc _
          have hownN0 : (w2.alloc (.cells #[] 56)).ownsRow w2.heap.size 56 4 (.slice (some ⟨w2.heap.size, 0, none⟩) 0 0) (insK (x1, x2, x3, x4) D 0).1.length ((insK (x1, x2, x3, x4) D 0).1.flatMap encPg) := World.ownsRow_made w2 #[] 0 (Nat.le_refl _) (Nat.zero_le _) rfl
          have hF' := Lib.hid hF
          clear hbp hf2 hF hFa k0 k1 k2 k3 hin b0 b1 lb0 lr0 r0
          obtain ⟨wo, rfl⟩ : ∃ wo : World, wo = wr := ⟨_, rfl⟩
          go_loopg [8, 9, 10] D.length (fun gk2 nv dv kv wi => ∃ k : Nat, k ≤ D.length ∧ gk2 = D.length - k ∧ kv = .int .i64 k ∧ dv = .bool (insK (x1, x2, x3, x4) D k).2 ∧ wi.ownsRow w2.heap.size 56 4 nv (insK (x1, x2, x3, x4) D k).1.length ((insK (x1, x2, x3, x4) D k).1.flatMap encPg) ∧ Fr [] w2 wi)
          case atStart => exact ⟨0, Nat.zero_le _, rfl, rfl, rfl, hownN0, hF2⟩
          case round =>
            obtain ⟨k, hk, hgk2, rfl, rfl, hownN, hfi⟩ := hrel
            obtain ⟨wi, rfl⟩ : ∃ wi : World, wi = wr := ⟨_, rfl⟩
            have hgk2' := Lib.hid hgk2
            clear hgk2 hownN0 hF2
            obtain ⟨hNl1, hNl2⟩ := insK_len (x1, x2, x3, x4) D k hk
            have hNl2' := Lib.hid hNl2
            have hzi := hfi.size
            have hzo := hF'.out.size
            by_cases hkt : k < D.length
            · obtain ⟨gD, offD, rfl, _, hgD, hcD⟩ := hatD'.out (by rintro rfl; simp at hkt)
              obtain ⟨q, hq⟩ : ∃ q, D[k]? = some q := ⟨_, List.getElem?_eq_getElem hkt⟩
              have hFi : Fr [] wo wi := hF'.out.trans hfi
              have hcq : ∀ j u, (encPg q)[j]? = some u → wi.cell? ⟨gD, offD + k * 4 + j, none⟩ = some u := fun j u hj => by rw [hFi.cell (p := ⟨gD, _, none⟩) hgD (by simp), Nat.add_assoc]; exact hcD k q j u hq hj
              have hbi := hfi.keep hbp'.out (by simp)
              have hsp := insK_snoc (p := (x1, x2, x3, x4)) hq
              obtain ⟨q1, q2, q3, q4⟩ := q
              have y0 : wi.cell? ⟨wo.heap.size, 0, none⟩ = some (.int .i64 x1) := cell_at hbi
              have y3 : wi.cell? ⟨wo.heap.size, 3, none⟩ = some (.int .i64 x4) := cell_at hbi
              have z0 := hcq 0 _ rfl
              have z3 := hcq 3 _ rfl
              rw [Nat.add_zero] at z0
              dsimp only at z0 z3
              have ly := lt_of_cell y0
              have lz := lt_of_cell z0
              have hcq' := Lib.hid hcq; have hbi' := Lib.hid hbi
              unfold stepI at hsp
              obtain ⟨N, hN⟩ : ∃ N, N = (insK (x1, x2, x3, x4) D k).1 := ⟨_, rfl⟩
              rw [← hN] at hownN hNl1 hsp
              have hN' := Lib.hid hN
              clear hcq hbi hq hN hNl2 hcD
              cases hd : (insK (x1, x2, x3, x4) D k).2 with
              | true =>
                rw [hd, if_neg (fun hh => by simp at hh)] at hsp
                have hst := Lib.hid hsp
                clear hsp hd
                go_wp2
                go_quiet (fail)
                obtain ⟨wj, hwj⟩ : ∃ wj, wj = wi.drewN nq := ⟨_, rfl⟩
                have hFj : Fr [] wi wj := by rw [hwj]; exact (Fr.refl _ _).drewN nq
                have t0 : wj.cell? ⟨wo.heap.size, 0, none⟩ = some (.int .i64 x1) := by rw [hwj]; exact cell_at hbi'.out
                have t1 : wj.cell? ⟨wo.heap.size, 1, none⟩ = some (.int .i64 x2) := by rw [hwj]; exact cell_at hbi'.out
                have t2 : wj.cell? ⟨wo.heap.size, 2, none⟩ = some (.string x3) := by rw [hwj]; exact cell_at hbi'.out
                have t3 : wj.cell? ⟨wo.heap.size, 3, none⟩ = some (.int .i64 x4) := by rw [hwj]; exact cell_at hbi'.out
                have s0 : wj.cell? ⟨gD, offD + k * 4, none⟩ = some (.int .i64 q1) := by rw [hwj]; exact hcq'.out 0 _ rfl
                have s1 : wj.cell? ⟨gD, offD + k * 4 + 1, none⟩ = some (.int .i64 q2) := by rw [hwj]; exact hcq'.out 1 _ rfl
                have s2 : wj.cell? ⟨gD, offD + k * 4 + 2, none⟩ = some (.string q3) := by rw [hwj]; exact hcq'.out 2 _ rfl
                have s3 : wj.cell? ⟨gD, offD + k * 4 + 3, none⟩ = some (.int .i64 q4) := by rw [hwj]; exact hcq'.out 3 _ rfl
                have ls := lt_of_cell s0
                have lt := lt_of_cell t0
                have hownJ := owns_fr hownN hFj (by simp)
                have hzj := hFj.size
                rw [← hwj]
                clear hwj y0 y3 z0 z3 ly lz
                go_wp2_with (first | (at_builtin; refine wpList_push wj _ _ rfl (.tmp 81) (.tmp 86) 37 rfl w2.heap.size 56 Try.underlying37 infoRP rfl (by omega) u8 N rfl hownJ (q1, q2, q3, q4) rfl encPg_len (enc1 _) rfl (by omega) (by omega) (by omega) ?_; intro v4 w4 hown4 hf4))
                have hob4 := hownJ.lt
                go_roundg (D.length - (k + 1))
                case rel => exact ⟨k + 1, by omega, rfl, by go_num, by rw [hst.out], by rw [hst.out]; exact hown4, (hfi.trans hFj).andThen hf4 (fun t ht => .inr (by have := hob4 t (by simpa using ht); omega))⟩
                case measure => rw [hgk2'.out]; omega
              | false =>
                rw [hd] at hsp
                have hd' := Lib.hid hd; clear hd
                by_cases c1 : x4 < q4
                · rw [if_pos ⟨rfl, .inl c1⟩] at hsp
                  have hst := Lib.hid hsp
                  clear hsp
                  go_wp2
                  go_quiet (fail)
                  obtain ⟨wj, hwj⟩ : ∃ wj, wj = wi.drewN nq := ⟨_, rfl⟩
                  have hFj : Fr [] wi wj := by rw [hwj]; exact (Fr.refl _ _).drewN nq
                  have t0 : wj.cell? ⟨wo.heap.size, 0, none⟩ = some (.int .i64 x1) := by rw [hwj]; exact cell_at hbi'.out
                  have t1 : wj.cell? ⟨wo.heap.size, 1, none⟩ = some (.int .i64 x2) := by rw [hwj]; exact cell_at hbi'.out
                  have t2 : wj.cell? ⟨wo.heap.size, 2, none⟩ = some (.string x3) := by rw [hwj]; exact cell_at hbi'.out
                  have t3 : wj.cell? ⟨wo.heap.size, 3, none⟩ = some (.int .i64 x4) := by rw [hwj]; exact cell_at hbi'.out
                  have s0 : wj.cell? ⟨gD, offD + k * 4, none⟩ = some (.int .i64 q1) := by rw [hwj]; exact hcq'.out 0 _ rfl
                  have s1 : wj.cell? ⟨gD, offD + k * 4 + 1, none⟩ = some (.int .i64 q2) := by rw [hwj]; exact hcq'.out 1 _ rfl
                  have s2 : wj.cell? ⟨gD, offD + k * 4 + 2, none⟩ = some (.string q3) := by rw [hwj]; exact hcq'.out 2 _ rfl
                  have s3 : wj.cell? ⟨gD, offD + k * 4 + 3, none⟩ = some (.int .i64 q4) := by rw [hwj]; exact hcq'.out 3 _ rfl
                  have ls := lt_of_cell s0
                  have lt := lt_of_cell t0
                  have hownJ := owns_fr hownN hFj (by simp)
                  have hzj := hFj.size
                  rw [← hwj]
                  clear hwj y0 y3 z0 z3 ly lz
                  go_wp2_with (first | (at_builtin; refine wpList_push wj _ _ rfl (.tmp 77) (.tmp 79) 37 rfl w2.heap.size 56 Try.underlying37 infoRP rfl (by omega) u8 N rfl hownJ (x1, x2, x3, x4) rfl encPg_len (enc1 _) rfl (by omega) (by omega) (by omega) ?_; intro v3 w3 hown3 hf3; have hob3 := hownJ.lt; have e0 := (show w3.cell? ⟨gD, offD + k * 4, none⟩ = some (.int .i64 q1) from by rw [hf3.cell (p := ⟨gD, _, none⟩) ls (fun hm => by have := hob3 _ (by simpa using hm); omega)]; exact s0); have e1 := (show w3.cell? ⟨gD, offD + k * 4 + 1, none⟩ = some (.int .i64 q2) from by rw [hf3.cell (p := ⟨gD, _, none⟩) ls (fun hm => by have := hob3 _ (by simpa using hm); omega)]; exact s1); have e2 := (show w3.cell? ⟨gD, offD + k * 4 + 2, none⟩ = some (.string q3) from by rw [hf3.cell (p := ⟨gD, _, none⟩) ls (fun hm => by have := hob3 _ (by simpa using hm); omega)]; exact s2); have e3 := (show w3.cell? ⟨gD, offD + k * 4 + 3, none⟩ = some (.int .i64 q4) from by rw [hf3.cell (p := ⟨gD, _, none⟩) ls (fun hm => by have := hob3 _ (by simpa using hm); omega)]; exact s3); have le3 := lt_of_cell e0; have hz3 := hf3.size; have hnl3 : (N ++ [((x1, x2, x3, x4) : Pg)]).length ≤ D.length + 2 := (by simp only [List.length_append, List.length_cons, List.length_nil]; omega)) | (at_builtin; refine wpList_push w3 _ _ rfl (.tmp 81) (.tmp 86) 37 rfl w2.heap.size 56 Try.underlying37 infoRP rfl (by omega) v3 (N ++ [(x1, x2, x3, x4)]) rfl hown3 (q1, q2, q3, q4) rfl encPg_len (enc1 _) rfl (by omega) (by omega) (by omega) ?_; intro v4 w4 hown4 hf4))
                  have hob4 := hown3.lt
                  go_roundg (D.length - (k + 1))
                  case rel => exact ⟨k + 1, by omega, rfl, by go_num, by rw [hst.out], by rw [hst.out]; exact hown4, ((hfi.trans hFj).andThen hf3 (fun t ht => .inr (by have := hob3 t (by simpa using ht); omega))).andThen hf4 (fun t ht => .inr (by have := hob4 t (by simpa using ht); omega))⟩
                  case measure => rw [hgk2'.out]; omega
                · have c1' : decide (x4 < q4) = false := by simpa using c1
                  by_cases c2 : x4 = q4
                  · by_cases c3 : x1 < q1
                    · rw [if_pos ⟨rfl, .inr ⟨c2, c3⟩⟩] at hsp
                      have hst := Lib.hid hsp
                      clear hsp
                      subst c2
                      go_wp2
                      go_quiet (fail)
                      obtain ⟨wj, hwj⟩ : ∃ wj, wj = wi.drewN nq := ⟨_, rfl⟩
                      have hFj : Fr [] wi wj := by rw [hwj]; exact (Fr.refl _ _).drewN nq
                      have t0 : wj.cell? ⟨wo.heap.size, 0, none⟩ = some (.int .i64 x1) := by rw [hwj]; exact cell_at hbi'.out
                      have t1 : wj.cell? ⟨wo.heap.size, 1, none⟩ = some (.int .i64 x2) := by rw [hwj]; exact cell_at hbi'.out
                      have t2 : wj.cell? ⟨wo.heap.size, 2, none⟩ = some (.string x3) := by rw [hwj]; exact cell_at hbi'.out
                      have t3 : wj.cell? ⟨wo.heap.size, 3, none⟩ = some (.int .i64 x4) := by rw [hwj]; exact cell_at hbi'.out
                      have s0 : wj.cell? ⟨gD, offD + k * 4, none⟩ = some (.int .i64 q1) := by rw [hwj]; exact hcq'.out 0 _ rfl
                      have s1 : wj.cell? ⟨gD, offD + k * 4 + 1, none⟩ = some (.int .i64 q2) := by rw [hwj]; exact hcq'.out 1 _ rfl
                      have s2 : wj.cell? ⟨gD, offD + k * 4 + 2, none⟩ = some (.string q3) := by rw [hwj]; exact hcq'.out 2 _ rfl
                      have s3 : wj.cell? ⟨gD, offD + k * 4 + 3, none⟩ = some (.int .i64 x4) := by rw [hwj]; exact hcq'.out 3 _ rfl
                      have ls := lt_of_cell s0
                      have lt := lt_of_cell t0
                      have hownJ := owns_fr hownN hFj (by simp)
                      have hzj := hFj.size
                      rw [← hwj]
                      clear hwj y0 y3 z0 z3 ly lz
                      go_wp2_with (first | (at_builtin; refine wpList_push wj _ _ rfl (.tmp 77) (.tmp 79) 37 rfl w2.heap.size 56 Try.underlying37 infoRP rfl (by omega) u8 N rfl hownJ (x1, x2, x3, x4) rfl encPg_len (enc1 _) rfl (by omega) (by omega) (by omega) ?_; intro v3 w3 hown3 hf3; have hob3 := hownJ.lt; have e0 := (show w3.cell? ⟨gD, offD + k * 4, none⟩ = some (.int .i64 q1) from by rw [hf3.cell (p := ⟨gD, _, none⟩) ls (fun hm => by have := hob3 _ (by simpa using hm); omega)]; exact s0); have e1 := (show w3.cell? ⟨gD, offD + k * 4 + 1, none⟩ = some (.int .i64 q2) from by rw [hf3.cell (p := ⟨gD, _, none⟩) ls (fun hm => by have := hob3 _ (by simpa using hm); omega)]; exact s1); have e2 := (show w3.cell? ⟨gD, offD + k * 4 + 2, none⟩ = some (.string q3) from by rw [hf3.cell (p := ⟨gD, _, none⟩) ls (fun hm => by have := hob3 _ (by simpa using hm); omega)]; exact s2); have e3 := (show w3.cell? ⟨gD, offD + k * 4 + 3, none⟩ = some (.int .i64 x4) from by rw [hf3.cell (p := ⟨gD, _, none⟩) ls (fun hm => by have := hob3 _ (by simpa using hm); omega)]; exact s3); have le3 := lt_of_cell e0; have hz3 := hf3.size; have hnl3 : (N ++ [((x1, x2, x3, x4) : Pg)]).length ≤ D.length + 2 := (by simp only [List.length_append, List.length_cons, List.length_nil]; omega)) | (at_builtin; refine wpList_push w3 _ _ rfl (.tmp 81) (.tmp 86) 37 rfl w2.heap.size 56 Try.underlying37 infoRP rfl (by omega) v3 (N ++ [(x1, x2, x3, x4)]) rfl hown3 (q1, q2, q3, x4) rfl encPg_len (enc1 _) rfl (by omega) (by omega) (by omega) ?_; intro v4 w4 hown4 hf4))
                      have hob4 := hown3.lt
                      go_roundg (D.length - (k + 1))
                      case rel => exact ⟨k + 1, by omega, rfl, by go_num, by rw [hst.out], by rw [hst.out]; exact hown4, ((hfi.trans hFj).andThen hf3 (fun t ht => .inr (by have := hob3 t (by simpa using ht); omega))).andThen hf4 (fun t ht => .inr (by have := hob4 t (by simpa using ht); omega))⟩
                      case measure => rw [hgk2'.out]; omega
                    · have c3' : decide (x1 < q1) = false := by simpa using c3
                      rw [if_neg (fun hh => by have := hh.2; unfold ltP at this; dsimp only at this; omega)] at hsp
                      have hst := Lib.hid hsp
                      clear hsp
                      subst c2
                      go_wp2
                      go_quiet (fail)
                      obtain ⟨wj, hwj⟩ : ∃ wj, wj = wi.drewN nq := ⟨_, rfl⟩
                      have hFj : Fr [] wi wj := by rw [hwj]; exact (Fr.refl _ _).drewN nq
                      have t0 : wj.cell? ⟨wo.heap.size, 0, none⟩ = some (.int .i64 x1) := by rw [hwj]; exact cell_at hbi'.out
                      have t1 : wj.cell? ⟨wo.heap.size, 1, none⟩ = some (.int .i64 x2) := by rw [hwj]; exact cell_at hbi'.out
                      have t2 : wj.cell? ⟨wo.heap.size, 2, none⟩ = some (.string x3) := by rw [hwj]; exact cell_at hbi'.out
                      have t3 : wj.cell? ⟨wo.heap.size, 3, none⟩ = some (.int .i64 x4) := by rw [hwj]; exact cell_at hbi'.out
                      have s0 : wj.cell? ⟨gD, offD + k * 4, none⟩ = some (.int .i64 q1) := by rw [hwj]; exact hcq'.out 0 _ rfl
                      have s1 : wj.cell? ⟨gD, offD + k * 4 + 1, none⟩ = some (.int .i64 q2) := by rw [hwj]; exact hcq'.out 1 _ rfl
                      have s2 : wj.cell? ⟨gD, offD + k * 4 + 2, none⟩ = some (.string q3) := by rw [hwj]; exact hcq'.out 2 _ rfl
                      have s3 : wj.cell? ⟨gD, offD + k * 4 + 3, none⟩ = some (.int .i64 x4) := by rw [hwj]; exact hcq'.out 3 _ rfl
                      have ls := lt_of_cell s0
                      have lt := lt_of_cell t0
                      have hownJ := owns_fr hownN hFj (by simp)
                      have hzj := hFj.size
                      rw [← hwj]
                      clear hwj y0 y3 z0 z3 ly lz
                      go_wp2_with (first | (at_builtin; refine wpList_push wj _ _ rfl (.tmp 81) (.tmp 86) 37 rfl w2.heap.size 56 Try.underlying37 infoRP rfl (by omega) u8 N rfl hownJ (q1, q2, q3, x4) rfl encPg_len (enc1 _) rfl (by omega) (by omega) (by omega) ?_; intro v4 w4 hown4 hf4))
                      have hob4 := hownJ.lt
                      go_roundg (D.length - (k + 1))
                      case rel => exact ⟨k + 1, by omega, rfl, by go_num, by rw [hst.out], by rw [hst.out]; exact hown4, (hfi.trans hFj).andThen hf4 (fun t ht => .inr (by have := hob4 t (by simpa using ht); omega))⟩
                      case measure => rw [hgk2'.out]; omega
                  · have c2' : (x4 == q4) = false := by simpa using c2
                    rw [if_neg (fun hh => by have := hh.2; unfold ltP at this; dsimp only at this; omega)] at hsp
                    have hst := Lib.hid hsp
                    clear hsp
                    go_wp2
                    go_quiet (fail)
                    obtain ⟨wj, hwj⟩ : ∃ wj, wj = wi.drewN nq := ⟨_, rfl⟩
                    have hFj : Fr [] wi wj := by rw [hwj]; exact (Fr.refl _ _).drewN nq
                    have t0 : wj.cell? ⟨wo.heap.size, 0, none⟩ = some (.int .i64 x1) := by rw [hwj]; exact cell_at hbi'.out
                    have t1 : wj.cell? ⟨wo.heap.size, 1, none⟩ = some (.int .i64 x2) := by rw [hwj]; exact cell_at hbi'.out
                    have t2 : wj.cell? ⟨wo.heap.size, 2, none⟩ = some (.string x3) := by rw [hwj]; exact cell_at hbi'.out
                    have t3 : wj.cell? ⟨wo.heap.size, 3, none⟩ = some (.int .i64 x4) := by rw [hwj]; exact cell_at hbi'.out
                    have s0 : wj.cell? ⟨gD, offD + k * 4, none⟩ = some (.int .i64 q1) := by rw [hwj]; exact hcq'.out 0 _ rfl
                    have s1 : wj.cell? ⟨gD, offD + k * 4 + 1, none⟩ = some (.int .i64 q2) := by rw [hwj]; exact hcq'.out 1 _ rfl
                    have s2 : wj.cell? ⟨gD, offD + k * 4 + 2, none⟩ = some (.string q3) := by rw [hwj]; exact hcq'.out 2 _ rfl
                    have s3 : wj.cell? ⟨gD, offD + k * 4 + 3, none⟩ = some (.int .i64 q4) := by rw [hwj]; exact hcq'.out 3 _ rfl
                    have ls := lt_of_cell s0
                    have lt := lt_of_cell t0
                    have hownJ := owns_fr hownN hFj (by simp)
                    have hzj := hFj.size
                    rw [← hwj]
                    clear hwj y0 y3 z0 z3 ly lz
                    go_wp2_with (first | (at_builtin; refine wpList_push wj _ _ rfl (.tmp 81) (.tmp 86) 37 rfl w2.heap.size 56 Try.underlying37 infoRP rfl (by omega) u8 N rfl hownJ (q1, q2, q3, q4) rfl encPg_len (enc1 _) rfl (by omega) (by omega) (by omega) ?_; intro v4 w4 hown4 hf4))
                    have hob4 := hownJ.lt
                    go_roundg (D.length - (k + 1))
                    case rel => exact ⟨k + 1, by omega, rfl, by go_num, by rw [hst.out], by rw [hst.out]; exact hown4, (hfi.trans hFj).andThen hf4 (fun t ht => .inr (by have := hob4 t (by simpa using ht); omega))⟩
                    case measure => rw [hgk2'.out]; omega
            · have he : k = D.length := by omega
              subst he
              have hall := insK_all (x1, x2, x3, x4) D
              have hzw := (hfr.trans hF'.out).size
              rw [hWs'.out] at hzw
              have hbi := hfi.keep hbp'.out (by simp)
              have y0 : wi.cell? ⟨wo.heap.size, 0, none⟩ = some (.int .i64 x1) := cell_at hbi
              have y1 : wi.cell? ⟨wo.heap.size, 1, none⟩ = some (.int .i64 x2) := cell_at hbi
              have y2 : wi.cell? ⟨wo.heap.size, 2, none⟩ = some (.string x3) := cell_at hbi
              have y3 : wi.cell? ⟨wo.heap.size, 3, none⟩ = some (.int .i64 x4) := cell_at hbi
              have ly := lt_of_cell y0
              unfold finI at hall
              obtain ⟨N, hN⟩ : ∃ N, N = (insK (x1, x2, x3, x4) D D.length).1 := ⟨_, rfl⟩
              rw [← hN] at hownN hNl1 hall
              clear hbi hN hNl2
              cases hd : (insK (x1, x2, x3, x4) D D.length).2 with
              | true =>
                rw [hd, if_pos rfl] at hall
                have hall' := Lib.hid hall
                clear hall hd
                go_wp2
                go_roundg (P.length - (i + 1))
                case rel => exact ⟨i + 1, by omega, rfl, by go_num, by rw [hsn.out, hb'.out, if_pos ⟨rfl, hz⟩, ← hall'.out]; exact owns_base hownN hzw, (hfr.trans hF'.out).trans hfi⟩
                case measure => rw [hgk'.out]; omega
              | false =>
                rw [hd, if_neg (by simp)] at hall
                have hall' := Lib.hid hall
                clear hall hd
                go_wp2_with (first | (at_builtin; refine wpList_push wi _ _ rfl (.tmp 90) (.tmp 92) 37 rfl w2.heap.size 56 Try.underlying37 infoRP rfl (by omega) u8 N rfl hownN (x1, x2, x3, x4) rfl encPg_len (enc1 _) rfl (by omega) (by omega) (by omega) ?_; intro v3 w3 hown3 hf3))
                have hob4 := hownN.lt
                go_roundg (P.length - (i + 1))
                case rel => exact ⟨i + 1, by omega, rfl, by go_num, by rw [hsn.out, hb'.out, if_pos ⟨rfl, hz⟩, ← hall'.out]; exact owns_base hown3 hzw, ((hfr.trans hF'.out).trans hfi).andThen hf3 (fun t ht => .inr (by have := hob4 t (by simpa using ht); have := hWs'.out; omega))⟩
                case measure => rw [hgk'.out]; omega
    · have he : i = P.length := by omega
      subst he
      rw [List.take_length] at hown
      have hsl := SliceIs.of_owns hown rfl
      go_wp2
      go_ret
      exact ⟨_, rfl, hf0.trans hfr, hsl.imp (fun g _ hg => by omega)⟩
end Go.Proofs.Ytafeemlojlngfaa
