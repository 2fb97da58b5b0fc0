/- RedoRecords, walked. -/
import Derived.Test.YtcbccogpogdbmaaSh
namespace Go.Proofs.Ytcbccogpogdbmaa
open Go.RowKit Go.Maps Go.Lib Go.Sort
attribute [local go_sem ↓] Go.wp_at_zero Go.wp_at_succ
theorem joinV_eq (o : Option Rec) : joinV o = .tuple #[aggR (o.getD zeroR), .bool o.isSome] := by cases o <;> rfl
set_option maxRecDepth 100000 in
set_option maxHeartbeats 4000000 in
theorem records_walk {B : Nat → Prop} (r : Rec) (v : Value) (ps : List ByteArray) (w : World) (h : SliceIs w B encS v ps) :
    Calls Try.prog 3 #[aggR r, v] w fun e w' => e = .returned (.bool true) ∧ Fr [] w w' := by
  have h' := Lib.hid h
  obtain ⟨a, cap, rfl, hcap, hcm, hat⟩ := h.at encS_len
  have hat' := Lib.hid hat
  clear hat h
  obtain ⟨X, hX⟩ : ∃ X, X = w.alloc (.cells #[.int .i64 r.1, .int .i64 r.2.1, .int .i64 r.2.2.1, .string r.2.2.2] 23) := ⟨_, rfl⟩
  have hFX : Fr [] w X := by rw [hX]; exact (Fr.refl [] w).alloc _
  have hbx : X.heap[w.heap.size]? = some (.cells #[.int .i64 r.1, .int .i64 r.2.1, .int .i64 r.2.2.1, .string r.2.2.2] 23 (0, 0)) := by rw [hX]; exact heap_alloc_new w _
  have hpa := fun Y => parts_any r Y
  have hra := fun Y => rparts_any r Y
  obtain ⟨P, hP⟩ : ∃ P, P = partsP r := ⟨_, rfl⟩
  obtain ⟨E, hE⟩ : ∃ E, E = errR r := ⟨_, rfl⟩
  have hjp : (E = 0 ∧ joinP P = some r ∧ P.length ≤ 3) ∨ (E ≠ 0 ∧ joinP P = none ∧ P.length ≤ 3) := by
    by_cases h0 : errR r = 0
    · exact .inl ⟨hE.trans h0, by rw [hP]; exact join_parts h0, by rw [hP, parts_len h0]; omega⟩
    · refine .inr ⟨by rw [hE]; exact h0, by rw [hP]; exact join_none h0, ?_⟩
      rw [hP]; unfold partsP; rw [if_neg h0]; simp
  rw [← hP, ← hE] at hpa hra
  obtain ⟨r1, r2, r3, r4⟩ := r
  unfold aggR at hpa hra ⊢
  dsimp only at hX hbx hpa hra ⊢
  have hpl : P.length ≤ 3 := by rcases hjp with h | h <;> exact h.2.2
  have hX' := Lib.hid hX; have hFX' := Lib.hid hFX; have hbx' := Lib.hid hbx; have hpa' := Lib.hid hpa; have hra' := Lib.hid hra; have hjp' := Lib.hid hjp
  clear hX hFX hbx hpa hra hjp hP hE
  have x3 := (show X.cell? ⟨w.heap.size, 3, none⟩ = some (.string r4) from cell_at hbx'.out)
  have lx := lt_of_block hbx'.out
  by_cases hc1 : 1024 < r4.size
  · go_enter Try.func3, Try.ntmps3
    go_wp2
    go_ret
    exact ⟨rfl, (Fr.refl [] w).alloc _⟩
  · by_cases hc2 : 5 < ps.length
    · go_enter Try.func3, Try.ntmps3
      go_wp2
      go_ret
      exact ⟨rfl, (Fr.refl [] w).alloc _⟩
    · go_enter Try.func3, Try.ntmps3
      go_wp2
      rw [← hX'.out]
      go_loopg [5] ps.length (fun gk iv wr => ∃ i : Nat, i ≤ ps.length ∧ gk = ps.length - i ∧ iv = .int .i64 i ∧ wr = X)
      case atStart => exact ⟨0, Nat.zero_le _, rfl, rfl, rfl⟩
      case round =>
        obtain ⟨i, hi, hgk, rfl, rfl⟩ := hrel
        have hgk' := Lib.hid hgk
        clear hgk
        by_cases hlt : i < ps.length
        · have hx : ps[i]? = some (ps[i]'hlt) := List.getElem?_eq_getElem hlt
          obtain ⟨x, hxe⟩ : ∃ x, x = ps[i]'hlt := ⟨_, rfl⟩
          rw [← hxe] at hx
          obtain ⟨g, off, rfl, _, hg, hcl⟩ := hat'.out (by intro h0; rw [h0] at hlt; simp at hlt)
          have k0 := hcl i x 0 _ hx rfl
          simp only [Nat.mul_one, Nat.add_zero] at k0
          have k1 := hFX'.out.at0 k0
          clear k0 hcl hx hxe
          by_cases hb : 100 < x.size
          · go_wp2
            go_ret
            exact ⟨rfl, hFX'.out⟩
          · go_wp2
            go_roundg (ps.length - (i + 1))
            case rel => exact ⟨i + 1, by omega, rfl, by go_num, rfl⟩
            case measure => rw [hgk'.out]; omega
        · have hX0 := hX'.out
          have y0 := (show wr.cell? ⟨w.heap.size, 0, none⟩ = some (.int .i64 r1) from cell_at hbx'.out)
          have y1 := (show wr.cell? ⟨w.heap.size, 1, none⟩ = some (.int .i64 r2) from cell_at hbx'.out)
          have y2 := (show wr.cell? ⟨w.heap.size, 2, none⟩ = some (.int .i64 r3) from cell_at hbx'.out)
          clear hX0
          go_wp2_with (first
            | (go_at_call 9; refine (hpa'.out _).mono ?_; rintro e w2 ⟨v2, rfl, hf2, ho2⟩; have hs2 := SliceIs.of_owns ho2 rfl; have hs2' := Lib.hid hs2; obtain ⟨va, vc, rfl, hvc, _, hvat⟩ := hs2.at encS_len; have hvat' := Lib.hid hvat; have z0 := hf2.at0 y0; have z1 := hf2.at0 y1; have z2 := hf2.at0 y2; have z3 := hf2.at0 x3; have zl := hf2.size; have hf2' := Lib.hid hf2; clear hvat hf2 ho2 hs2)
            | (go_at_call 10; refine (hra'.out _).mono ?_; rintro e w3 ⟨v3, rfl, hf3, ho3⟩; have hs3 := SliceIs.of_owns ho3 rfl; have hs3' := Lib.hid hs3; obtain ⟨ua, uc, rfl, huc, _, huat⟩ := hs3.at encS_len; have huat' := Lib.hid huat; have hf3' := Lib.hid hf3; clear huat hf3 ho3 hs3)
            | (go_at_call 11; refine (shown_any _).mono ?_; rintro e w4 ⟨rfl, hf4⟩; have hf4' := Lib.hid hf4; clear hf4))
          have hf24 := Lib.hid (hf3'.out.trans hf4'.out)
          obtain ⟨V, hV⟩ : ∃ V, V = w4 := ⟨_, rfl⟩
          rw [← hV] at hf4' hf24 ⊢
          clear hV
          go_loopg [10] P.length (fun gk jv wr => ∃ j : Nat, j ≤ P.length ∧ gk = P.length - j ∧ jv = .int .i64 j ∧ Fr [] V wr)
          case atStart => exact ⟨0, Nat.zero_le _, rfl, rfl, Fr.refl _ _⟩
          case round =>
            obtain ⟨j, hj, hgk2, rfl, hfj⟩ := hrel
            have hgk2' := Lib.hid hgk2; have hfj' := Lib.hid hfj
            clear hgk2 hfj
            by_cases hlt2 : j < P.length
            · have hx : P[j]? = some (P[j]'hlt2) := List.getElem?_eq_getElem hlt2
              obtain ⟨x, hxe⟩ : ∃ x, x = P[j]'hlt2 := ⟨_, rfl⟩
              rw [← hxe] at hx
              have hne : P ≠ [] := by intro h0; rw [h0] at hlt2; simp at hlt2
              obtain ⟨g, off, rfl, _, hg, hcl⟩ := hvat'.out hne
              obtain ⟨g2, off2, rfl, _, hg2, hcl2⟩ := huat'.out hne
              have k0 := hcl j x 0 _ hx rfl
              have m0 := hcl2 j x 0 _ hx rfl
              simp only [Nat.mul_one, Nat.add_zero] at k0 m0
              have k1 := hfj'.out.at0 (hf24.out.at0 k0)
              have m1 := hfj'.out.at0 (hf4'.out.at0 m0)
              clear k0 m0 hcl hcl2 hx hxe hne
              go_upto_region 15 with (fail)
              go_region
              go_wp2
              go_roundg (P.length - (j + 1))
              case rel => exact ⟨j + 1, by omega, rfl, by go_num, by first | exact hfj'.out | exact hfj'.out.drew⟩
              case measure => rw [hgk2'.out]; omega
            · have hFj := hf24.out.trans hfj'.out
              have hF2 := hf2'.out.trans hFj
              have hF := Lib.hid (hFX'.out.trans hF2)
              have hjo := fun Y (hY : Fr [] wr Y) => join_any _ ps Y ((h'.out.fr hF.out (by simp)).fr hY (by simp))
              have hro := fun Y (hY : Fr [] wr Y) => rjoin_any _ ps Y ((h'.out.fr hF.out (by simp)).fr hY (by simp))
              have hlast := fun Y (hY : Fr [] wr Y) => join_any _ P Y ((hs2'.out.fr hFj (by simp)).fr hY (by simp))
              rw [joinV_eq] at hjo hro hlast
              obtain ⟨q, hq⟩ : ∃ q, q = (joinP ps).getD zeroR := ⟨_, rfl⟩
              obtain ⟨b, hb⟩ : ∃ b, b = (joinP ps).isSome := ⟨_, rfl⟩
              rw [← hq, ← hb] at hjo hro
              clear hq hb hFj
              obtain ⟨q1, q2, q3, q4⟩ := q
              unfold aggR at hjo hro hlast
              dsimp only at hjo hro hlast
              have z0 := hF2.at0 y0
              have z1 := hF2.at0 y1
              have z2 := hF2.at0 y2
              have z3 := hF2.at0 x3
              have zl := hF2.size
              have hF2' := Lib.hid hF2; have hjo' := Lib.hid hjo; have hro' := Lib.hid hro; have hlast' := Lib.hid hlast
              clear hF2 hjo hro hlast hF
              go_upto_region 18 with (go_at_call 12; refine (hjo'.out _ (Fr.refl _ _)).mono ?_; rintro e w5 ⟨rfl, hf5⟩)
              obtain ⟨X5, hX5⟩ : ∃ X5, X5 = w5.alloc (.cells #[.int .i64 q1, .int .i64 q2, .int .i64 q3, .string q4] 23) := ⟨_, rfl⟩
              rw [← hX5]
              have hF5 : Fr [] wr X5 := by rw [hX5]; exact hf5.alloc _
              have hb5 : X5.heap[w5.heap.size]? = some (.cells #[.int .i64 q1, .int .i64 q2, .int .i64 q3, .string q4] 23 (0, 0)) := by rw [hX5]; exact heap_alloc_new w5 _
              have hF5' := Lib.hid hF5; have hb5' := Lib.hid hb5
              clear hX5 hF5 hb5 hf5
              go_upto_region 19 with (go_at_call 13; refine (hro'.out _ hF5'.out).mono ?_; rintro e w6 ⟨rfl, hf6⟩)
              obtain ⟨X6, hX6⟩ : ∃ X6, X6 = w6.alloc (.cells #[.int .i64 q1, .int .i64 q2, .int .i64 q3, .string q4] 29) := ⟨_, rfl⟩
              rw [← hX6]
              have hF6 : Fr [] X5 X6 := by rw [hX6]; exact hf6.alloc _
              have hb6 : X6.heap[w6.heap.size]? = some (.cells #[.int .i64 q1, .int .i64 q2, .int .i64 q3, .string q4] 29 (0, 0)) := by rw [hX6]; exact heap_alloc_new w6 _
              have hc5 := hF6.keep hb5'.out (by simp)
              have a0 := (show X6.cell? ⟨w5.heap.size, 0, none⟩ = some (.int .i64 q1) from cell_at hc5)
              have a1 := (show X6.cell? ⟨w5.heap.size, 1, none⟩ = some (.int .i64 q2) from cell_at hc5)
              have a2 := (show X6.cell? ⟨w5.heap.size, 2, none⟩ = some (.int .i64 q3) from cell_at hc5)
              have a3 := (show X6.cell? ⟨w5.heap.size, 3, none⟩ = some (.string q4) from cell_at hc5)
              have b0 := (show X6.cell? ⟨w6.heap.size, 0, none⟩ = some (.int .i64 q1) from cell_at hb6)
              have b1 := (show X6.cell? ⟨w6.heap.size, 1, none⟩ = some (.int .i64 q2) from cell_at hb6)
              have b2 := (show X6.cell? ⟨w6.heap.size, 2, none⟩ = some (.int .i64 q3) from cell_at hb6)
              have b3 := (show X6.cell? ⟨w6.heap.size, 3, none⟩ = some (.string q4) from cell_at hb6)
              have la := lt_of_block hc5
              have lb := lt_of_block hb6
              have hF6' := Lib.hid (hF5'.out.trans hF6)
              clear hX6 hF6 hb6 hc5 hf6
              rcases hjp'.out with ⟨hE, hj, -⟩ | ⟨hE, hj, -⟩
              · subst hE
                have hla := hlast'.out _ hF6'.out
                rw [hj] at hla
                simp only [Option.getD_some, Option.isSome_some] at hla
                skip
                have hla' := Lib.hid hla
                clear hla hj
                go_upto_region 22 with (go_at_call 12; refine hla'.out.mono ?_; rintro e w7 ⟨rfl, hf7⟩)
                obtain ⟨X7, hX7⟩ : ∃ X7, X7 = w7.alloc (.cells #[.int .i64 r1, .int .i64 r2, .int .i64 r3, .string r4] 23) := ⟨_, rfl⟩
                rw [← hX7]
                have hF7 : Fr [] X6 X7 := by rw [hX7]; exact hf7.alloc _
                have hb7 : X7.heap[w7.heap.size]? = some (.cells #[.int .i64 r1, .int .i64 r2, .int .i64 r3, .string r4] 23 (0, 0)) := by rw [hX7]; exact heap_alloc_new w7 _
                have hFall := hF6'.out.trans hF7
                have c0 := (show X7.cell? ⟨w7.heap.size, 0, none⟩ = some _ from cell_at hb7)
                have c1 := (show X7.cell? ⟨w7.heap.size, 1, none⟩ = some _ from cell_at hb7)
                have c2 := (show X7.cell? ⟨w7.heap.size, 2, none⟩ = some _ from cell_at hb7)
                have c3 := (show X7.cell? ⟨w7.heap.size, 3, none⟩ = some _ from cell_at hb7)
                have d0 := hFall.at0 z0
                have d1 := hFall.at0 z1
                have d2 := hFall.at0 z2
                have d3 := hFall.at0 z3
                have lc := lt_of_block hb7
                have ld := hFall.size
                have hall := Lib.hid (hFX'.out.trans (hF2'.out.trans hFall))
                clear hX7 hF7 hb7 hf7 hFall
                go_wp2
                go_ret
                exact ⟨rfl, hall.out⟩
              · skip
                have hla := hlast'.out _ hF6'.out
                rw [hj] at hla
                simp only [Option.getD_none, Option.isSome_none] at hla
                unfold zeroR at hla; dsimp only at hla; have hE2 : ((E : Int) == 0) = false := by simpa using hE
                have hE3 : ((E : Int) != 0) = true := by simpa using hE
                have hla' := Lib.hid hla
                clear hla hj
                go_upto_region 22 with (go_at_call 12; refine hla'.out.mono ?_; rintro e w7 ⟨rfl, hf7⟩)
                obtain ⟨X7, hX7⟩ : ∃ X7, X7 = w7.alloc (.cells #[.int .i64 0, .int .i64 0, .int .i64 0, .string ⟨#[]⟩] 23) := ⟨_, rfl⟩
                rw [← hX7]
                have hF7 : Fr [] X6 X7 := by rw [hX7]; exact hf7.alloc _
                have hb7 : X7.heap[w7.heap.size]? = some (.cells #[.int .i64 0, .int .i64 0, .int .i64 0, .string ⟨#[]⟩] 23 (0, 0)) := by rw [hX7]; exact heap_alloc_new w7 _
                have hFall := hF6'.out.trans hF7
                have c0 := (show X7.cell? ⟨w7.heap.size, 0, none⟩ = some _ from cell_at hb7)
                have c1 := (show X7.cell? ⟨w7.heap.size, 1, none⟩ = some _ from cell_at hb7)
                have c2 := (show X7.cell? ⟨w7.heap.size, 2, none⟩ = some _ from cell_at hb7)
                have c3 := (show X7.cell? ⟨w7.heap.size, 3, none⟩ = some _ from cell_at hb7)
                have d0 := hFall.at0 z0
                have d1 := hFall.at0 z1
                have d2 := hFall.at0 z2
                have d3 := hFall.at0 z3
                have lc := lt_of_block hb7
                have ld := hFall.size
                have hall := Lib.hid (hFX'.out.trans (hF2'.out.trans hFall))
                clear hX7 hF7 hb7 hf7 hFall
                go_wp2
                go_ret
                exact ⟨rfl, hall.out⟩
end Go.Proofs.Ytcbccogpogdbmaa
