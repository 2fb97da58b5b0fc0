/- RedoAgain, walked. -/
import Derived.Test.YtcbccogpogdbmaaLg8
import Derived.Test.YtcbccogpogdbmaaRowR
import Derived.Test.YtcbccogpogdbmaaRelC
namespace Go.Proofs.Ytcbccogpogdbmaa
open Go.RowKit Go.Maps Go.Lib Go.Sort
attribute [local go_sem ↓] Go.wp_at_zero Go.wp_at_succ
theorem ex3 {α β γ : Type} (p : α × β × γ) : ∃ a b c, p = (a, b, c) := ⟨_, _, _, rfl⟩
theorem ex6 {α β γ δ ε ζ : Type} (p : α × β × γ × δ × ε × ζ) : ∃ a b c d e f, p = (a, b, c, d, e, f) := ⟨_, _, _, _, _, _, rfl⟩
theorem heavy_len {S : List Rec} (h : heavyP S = false) : S.length ≤ 80 := by
  unfold heavyP at h
  rw [Bool.or_eq_false_iff] at h
  simpa using h.1
theorem again_opens {F : List Rec} {E : List ByteArray} (h : OkL 12 0 [] F) (hE : AreaOk 50 12 E 0 []) : lastP (allP 50 12 F E) 50 12 = lastQ 0 F ∧ keptP (allP 50 12 F E) 50 12 = F ∧ OkL 12 (lastQ 0 F) F [] := by
  have h2 : OkL 12 0 [] (F ++ []) := by rw [List.append_nil]; exact h
  have hA := hE.all (by omega) (by omega) F [] h2
  have hk := h2.commit
  rw [List.nil_append] at hA hk
  have hl : lastQ 0 F = F.length := by
    have := last_row F 0 h.fresh
    omega
  obtain ⟨Q, k1, k2, -⟩ := kept_is hA hk (by omega)
  rw [k2 hl.symm, List.nil_append] at k1
  exact ⟨last_is hA (by omega) (by omega), k1, hk⟩
set_option maxRecDepth 100000 in
set_option maxHeartbeats 8000000 in
theorem again_walk {B C : Nat → Prop} (v : Value) (L : List Rec) (u : Value) (P : List UInt8) (w : World) (h : SliceIs w B encR v L) (h2 : SliceIs w C encU u P) :
    Calls Try.prog 4 #[v, u] w fun e w' => e = .returned (.bool true) ∧ Fr [] w w' := by
  have hhv := heavy_any v L w h
  obtain ⟨a, cap, rfl, hc1, hc2, hat⟩ := h.at encR_len
  obtain ⟨b, cap2, rfl, hd1, hd2, hbt⟩ := h2.at encU_len
  have hat' := Lib.hid hat; have hbt' := Lib.hid hbt
  clear h h2 hat hbt
  have hF' : Hid (Fr [] w w) := Lib.hid (Fr.refl _ _)
  cases hh : heavyP L with
  | true =>
    rw [hh] at hhv
    have hhv' := Lib.hid hhv
    clear hhv hh
    go_enter Try.func4, Try.ntmps4
    go_wp2_with (first
      | (go_at_call 14; refine hhv'.out.mono ?_; rintro e wX ⟨rfl, he⟩; obtain rfl := he.symm)
      | (go_at_call 11; refine (shown_any _).mono ?_; rintro e wX ⟨rfl, hf⟩; replace hF' := Lib.hid (hF'.out.trans hf); clear hf))
    go_ret
    exact ⟨rfl, hF'.out⟩
  | false =>
    have hL80 := heavy_len hh
    rw [hh] at hhv
    have hhv' := Lib.hid hhv
    clear hhv hh
    by_cases hp20 : 20 < P.length
    · go_enter Try.func4, Try.ntmps4
      go_wp2_with (first
        | (go_at_call 14; refine hhv'.out.mono ?_; rintro e wX ⟨rfl, he⟩; obtain rfl := he.symm)
        | (go_at_call 11; refine (shown_any _).mono ?_; rintro e wX ⟨rfl, hf⟩; replace hF' := Lib.hid (hF'.out.trans hf); clear hf))
      go_ret
      exact ⟨rfl, hF'.out⟩
    · go_enter Try.func4, Try.ntmps4
      go_upto_region 4 with (first
        | (go_at_call 14; refine hhv'.out.mono ?_; rintro e wX ⟨rfl, he⟩; obtain rfl := he.symm)
        | (go_at_call 11; refine (shown_any _).mono ?_; rintro e wX ⟨rfl, hf⟩; replace hF' := Lib.hid (hF'.out.trans hf); clear hf)
        | (go_at_call 15; refine (newArea_any _).mono ?_; rintro e w1 ⟨rfl, hf1, ha1⟩; have hz0 := hF'.out.size; have hz1 := ha1.lt; have hzf := hf1.size; have ha1' := Lib.hid ha1; replace hF' := Lib.hid (hF'.out.trans hf1); clear hf1 ha1))
      obtain ⟨ax, hax⟩ : ∃ ax, ax = wX.heap.size + 1 := ⟨_, rfl⟩
      obtain ⟨gx, hgx⟩ : ∃ gx, gx = wX.heap.size := ⟨_, rfl⟩
      rw [← hax, ← hgx] at ha1' hz1
      rw [← hax]
      have hxx : wX.heap.size ≤ ax ∧ wX.heap.size ≤ gx := by omega
      obtain ⟨hxa, hxg⟩ := hxx
      obtain ⟨hza, hzg⟩ := hz1
      clear hax hgx
      go_upto_region 5 with (first
        | (go_at_call 15; refine (newArea_any _).mono ?_; rintro e w2 ⟨rfl, hf1, ha2⟩; have hz2 := ha2.lt; have hzf2 := hf1.size; have ha2' := Lib.hid ha2; replace ha1' := Lib.hid (ha1'.out.fr hf1 (by simp) (by simp)); replace hF' := Lib.hid (hF'.out.trans hf1); clear hf1 ha2))
      obtain ⟨ay, hay⟩ : ∃ ay, ay = w1.heap.size + 1 := ⟨_, rfl⟩
      obtain ⟨gy, hgy⟩ : ∃ gy, gy = w1.heap.size := ⟨_, rfl⟩
      rw [← hay, ← hgy] at ha2' hz2
      rw [← hay]
      have hyy : w1.heap.size ≤ ay ∧ w1.heap.size ≤ gy := by omega
      obtain ⟨hya, hyg⟩ := hyy
      clear hay hgy
      have ob : w.heap.size ≤ ax ∧ w.heap.size ≤ gx ∧ w.heap.size ≤ ay ∧ w.heap.size ≤ gy := by omega
      have oo : ax ≠ ay ∧ ax ≠ gy ∧ gx ≠ ay ∧ gx ≠ gy := by omega
      have olt : ax < w2.heap.size ∧ gx < w2.heap.size ∧ ay < w2.heap.size ∧ gy < w2.heap.size := by omega
      have ob' := Lib.hid ob; have oo' := Lib.hid oo
      clear hz2 hzf ob oo hz0 hzf2 hxa hxg hza hzg hya hyg
      obtain ⟨ol1, ol2, ol3, ol4⟩ := olt
      have hw2 := hF'.out.size
      go_upto_region 6 with (first
        | (go_at_call 16; refine (open_fresh (base := 50) (slots := 12) ha1'.out (by omega) (by omega) (by omega) (by omega)).mono ?_; rintro e w3 ⟨lx, rfl, hf3, hlx, hl3⟩; have hz3 := hf3.size; replace ha2' := Lib.hid (ha2'.out.fr hf3 (by simp) (by simp)); replace hF' := Lib.hid (hF'.out.trans hf3); have hl3' := Lib.hid hl3; clear hf3 hl3))
      go_upto_region 9 with (first
        | (go_at_call 16; refine (open_fresh (base := 50) (slots := 12) ha2'.out (by omega) (by omega) (by omega) (by omega)).mono ?_; rintro e w4 ⟨ly, rfl, hf4, hly, hl4⟩; have hz4 := hf4.size; replace hl3' := Lib.hid (hl3'.out.fr0 hf4); replace hF' := Lib.hid (hF'.out.trans hf4); have hl4' := Lib.hid hl4; clear hf4 hl4))
      obtain ⟨E, hE⟩ : ∃ E, E = List.replicate 256 (⟨#[]⟩ : ByteArray) := ⟨_, rfl⟩
      rw [← hE] at hl3' hl4'
      have hEe := area_empty 50 12
      rw [← hE] at hEe
      have hEe' := Lib.hid hEe
      clear hE hEe ha1' ha2'
      have hT : Two w w4 lx ax gx ly ay gy 50 12 E E (-1) (-1) 0 0 [] [] [] [] _ _ := ⟨hl3'.out, hl4'.out, fun g h1 h2 => by omega, fun g h1 => by omega, fun g h1 => by omega, oo'.out, fun g h1 => by have := hF'.out.size; omega, fun g h1 => by have := hF'.out.size; omega, ob'.out, hF'.out⟩
      have hT' := Lib.hid hT
      clear hT hl3' hl4' hz3 hz4 hlx hly ol1 ol2 ol3 ol4 hw2
      go_wp2
      go_loopg [11] L.length (fun gk iv wr => ∃ (i : Nat) (F : List Rec) (Gx Gy : Nat → Prop), i ≤ L.length ∧ gk = L.length - i ∧ iv = .int .i64 i ∧ Two w wr lx ax gx ly ay gy 50 12 E E (-1) (-1) 0 0 [] [] F F Gx Gy)
      case atStart => exact ⟨0, [], _, _, Nat.zero_le _, rfl, rfl, hT'.out⟩
      case round =>
        clear hT'
        obtain ⟨i, F, Gx, Gy, hi, hgk, rfl, hT⟩ := hrel
        have hT' := Lib.hid hT; have hgk' := Lib.hid hgk
        have hzw := hT.fr.size
        clear hT hgk
        by_cases hlt : i < L.length
        · obtain ⟨g, off, rfl, _, hg2, hcells⟩ := hat'.out (by intro h; rw [h] at hlt; simp at hlt)
          obtain ⟨x, hx⟩ : ∃ x, L[i]? = some x := ⟨_, List.getElem?_eq_getElem hlt⟩
          obtain ⟨x1, x2, x3, x4⟩ := x
          have m1 := hcells i _ 1 _ hx rfl
          have m2 := hcells i _ 2 _ hx rfl
          have m3 := hcells i _ 3 _ hx rfl
          simp only [← Nat.add_assoc] at m1 m2 m3
          have k1 := hT'.out.fr.at0 m1
          have k2 := hT'.out.fr.at0 m2
          have k3 := hT'.out.fr.at0 m3
          have m1' := Lib.hid m1; have m2' := Lib.hid m2; have m3' := Lib.hid m3
          clear hcells hx m1 m2 m3
          obtain ⟨n, e, F1, hap⟩ := ex3 (appendP 12 0 [] F x2 x3 x4)
          have hap' := Lib.hid hap
          clear hap
          go_upto_region 12 with (fail)
          refine wp_region_relC 16 (fun w w' => Fr [] w w') (fun w w' => w' = w) (by kernel_rfl) (by kernel_rfl) (by kernel_rfl) (fun h k => h.trans k) (Fr.refl [] _).drew (fun h k => k.trans h) (fun _ => rfl) ?_
          simp only [List.take_succ_cons, List.take_zero, List.drop_succ_cons, List.drop_zero]
          iterate 16
            apply RelW.still
            · intro s' W hX
              have j1 := hX.at0 k1
              have j2 := hX.at0 k2
              have j3 := hX.at0 k3
              have jl := hX.size
              clear hX
              go_wp2
              refine ⟨rfl, rfl, Fr.refl _ _, ?_⟩
              simp only [slotOf, List.getElem?_toArray, List.getElem?_cons_succ, List.getElem?_cons_zero, Option.getD_some]
              first | rfl | done
            · intro s'
              simp only [Act.put, List.setIfInBounds_toArray, List.set_cons_succ, List.set_cons_zero]
              rfl
          intro s' W hX _
          go_wp2_with (go_at_call 17; refine ((hT'.out.fr0 hX).append x2 x3 x4 hap'.out).mono ?_; rintro e w5 ⟨rfl, Gx1, hT5⟩; have hT5' := Lib.hid hT5; have hz5 := hT5.fr.size; clear hT5 hX)
          try (refine ⟨rfl, rfl, ?_⟩)
          unfold RelRest
          iterate 5
            apply RelW.still
            · rintro s' W rfl
              go_wp2
              refine ⟨rfl, rfl, rfl, ?_⟩
              simp only [slotOf, List.getElem?_toArray, List.getElem?_cons_succ, List.getElem?_cons_zero, Option.getD_some]
              first | rfl | done
            · intro s'
              simp only [Act.put, List.setIfInBounds_toArray, List.set_cons_succ, List.set_cons_zero]
              rfl
          rintro s' W rfl _
          clear k1 k2 k3
          have k1 := hT5'.out.fr.at0 m1'.out
          have k2 := hT5'.out.fr.at0 m2'.out
          have k3 := hT5'.out.fr.at0 m3'.out
          go_upto_region 13 with (fail)
          refine wp_region_relC 16 (fun w w' => Fr [] w w') (fun w w' => w' = w) (by kernel_rfl) (by kernel_rfl) (by kernel_rfl) (fun h k => h.trans k) (Fr.refl [] _).drew (fun h k => k.trans h) (fun _ => rfl) ?_
          simp only [List.take_succ_cons, List.take_zero, List.drop_succ_cons, List.drop_zero]
          iterate 16
            apply RelW.still
            · intro s' W hX
              have j1 := hX.at0 k1
              have j2 := hX.at0 k2
              have j3 := hX.at0 k3
              have jl := hX.size
              clear hX
              go_wp2
              refine ⟨rfl, rfl, Fr.refl _ _, ?_⟩
              simp only [slotOf, List.getElem?_toArray, List.getElem?_cons_succ, List.getElem?_cons_zero, Option.getD_some]
              first | rfl | done
            · intro s'
              simp only [Act.put, List.setIfInBounds_toArray, List.set_cons_succ, List.set_cons_zero]
              rfl
          intro s' W hX _
          go_wp2_with (go_at_call 17; refine ((hT5'.out.fr0 hX).append2 x2 x3 x4 hap'.out).mono ?_; rintro e w6 ⟨rfl, Gy1, hT6⟩; have hT6' := Lib.hid hT6; have hz6 := hT6.fr.size; clear hT6 hX)
          try (refine ⟨rfl, rfl, ?_⟩)
          unfold RelRest
          iterate 5
            apply RelW.still
            · rintro s' W rfl
              go_wp2
              refine ⟨rfl, rfl, rfl, ?_⟩
              simp only [slotOf, List.getElem?_toArray, List.getElem?_cons_succ, List.getElem?_cons_zero, Option.getD_some]
              first | rfl | done
            · intro s'
              simp only [Act.put, List.setIfInBounds_toArray, List.set_cons_succ, List.set_cons_zero]
              rfl
          rintro s' W rfl _
          go_wp2
          go_roundg (L.length - (i + 1))
          case rel => exact ⟨i + 1, F1, _, _, by omega, rfl, by go_num, hT6'.out⟩
          case measure => rw [hgk'.out]; omega
        · clear hgk'
          have hEr : ∀ r ∈ F, errR r = 0 := fun r hr => hT'.out.x.ok.good r (by simpa using hr)
          have hEr' := Lib.hid hEr
          clear hEr
          go_wp2
          clear hlt hi
          go_loopg [16] P.length (fun gk iv wr => ∃ (i : Nat) (Gx Gy : Nat → Prop) (Ax : List ByteArray) (tx mx : Int) (Kx Fx : List Rec), i ≤ P.length ∧ gk = P.length - i ∧ iv = .int .i64 i ∧ Two w wr lx ax gx ly ay gy 50 12 Ax E tx (-1) mx 0 Kx [] Fx F Gx Gy ∧ Kx ++ Fx = F ∧ allP 50 12 Fx Ax = allP 50 12 F E ∧ lastQ mx Fx = lastQ 0 F)
          case atStart => exact ⟨0, _, _, E, -1, 0, [], F, Nat.zero_le _, rfl, rfl, hT'.out, rfl, rfl, rfl⟩
          case round =>
            clear hT'
            obtain ⟨i2, Gx, Gy, Ax, tx, mx, Kx, Fx, hi, hgk, rfl, hT, hKF, hAll, hLast⟩ := hrel
            have hT' := Lib.hid hT; have hgk' := Lib.hid hgk; have hKF' := Lib.hid hKF; have hAll' := Lib.hid hAll; have hLast' := Lib.hid hLast
            have hzw := hT.fr.size
            have q1 := (show wr.cell? ⟨ax, 1, none⟩ = some (.int .i64 tx) from cell_at hT.x.area.1)
            have q2 := (show wr.frozen? ⟨ax, 1, none⟩ = false from frozen_at hT.x.area.1)
            have q3 := hT.x.area.lt.1
            clear hT hgk hKF hAll hLast
            by_cases hlt : i2 < P.length
            · obtain ⟨g, off, rfl, _, hg2, hcells⟩ := hbt'.out (by intro h; rw [h] at hlt; simp at hlt)
              obtain ⟨x, hx⟩ : ∃ x, P[i2]? = some x := ⟨_, List.getElem?_eq_getElem hlt⟩
              have k1 := hT'.out.fr.at0 (hcells i2 _ 0 _ hx rfl)
              simp only [Nat.mul_one, Nat.add_zero] at k1
              obtain ⟨xn, hxn⟩ : ∃ xn, xn = x.toNat := ⟨_, rfl⟩
              have hxb : xn < 256 := by rw [hxn]; exact x.toNat_lt
              rw [← hxn] at k1
              clear hcells hx hxn
              obtain ⟨e, A1, t1, m1, K1, F1, hco⟩ := ex6 (commitP 50 12 Fx Ax ((xn : Int) % 9) mx Kx)
              have hkeep := commit_keep hT'.out.x.area.2.2 (by omega) (by omega) (fun r hr => hT'.out.x.ok.good r (by simp [hr])) hco
              have hleft : t1 < 1000000 := by have := hkeep.2.2.2.2.1; omega
              have hco' := Lib.hid hco; have hkeep' := Lib.hid hkeep
              clear hco hkeep
              go_wp2_with (go_at_call 18; obtain ⟨Gx2, hT2⟩ := hT'.out.left ((xn : Int) % 9) (by omega); refine (hT2.commit hco'.out hleft).mono ?_; rintro e w5 ⟨rfl, Gx1, hT5⟩; have hT5' := Lib.hid hT5; clear hT5 hT2)
              go_roundg (P.length - (i2 + 1))
              case rel => exact ⟨i2 + 1, _, _, _, _, _, _, _, by omega, rfl, by go_num, hT5'.out, hkeep'.out.1.trans hKF'.out, hkeep'.out.2.1.trans hAll'.out, hkeep'.out.2.2.1.trans hLast'.out⟩
              case measure => rw [hgk'.out]; omega
            · clear hgk' q1 q2 q3
              have hF20 : F.length ≤ 20 := by have := hT'.out.y.bounds; omega
              obtain ⟨o1, o2, o3⟩ := again_opens hT'.out.y.ok hEe'.out
              obtain ⟨Z, hZ⟩ : ∃ Z, Z = allP 50 12 F E := ⟨_, rfl⟩
              obtain ⟨M, hM⟩ : ∃ M, M = lastQ 0 F := ⟨_, rfl⟩
              have hcx := commit_free 50 12 Fx Ax (-1) mx Kx (by omega)
              have hcy := commit_free 50 12 F E (-1) 0 [] (by omega)
              rw [hAll'.out, hLast'.out, hKF'.out, ← hZ, ← hM] at hcx
              rw [List.nil_append, ← hZ, ← hM] at hcy
              rw [← hZ, ← hM] at o1
              rw [← hM] at o3
              rw [← hZ] at o2
              have hcx' := Lib.hid hcx; have hcy' := Lib.hid hcy; have o1' := Lib.hid o1; have o2' := Lib.hid o2; have o3' := Lib.hid o3
              obtain ⟨Gx2, hT2⟩ := hT'.out.left (-1) (by omega)
              obtain ⟨W2, hW2⟩ : ∃ W2, W2 = wr.setCell ⟨ax, 1, none⟩ (.int .i64 (-1)) := ⟨_, rfl⟩
              rw [← hW2] at hT2
              have hW2' := Lib.hid hW2
              have q1 := (show wr.cell? ⟨ax, 1, none⟩ = some (.int .i64 tx) from cell_at hT'.out.x.area.1)
              have q2 := (show wr.frozen? ⟨ax, 1, none⟩ = false from frozen_at hT'.out.x.area.1)
              have q3 := hT'.out.x.area.lt.1
              replace hT' := Lib.hid hT2
              clear hcx hcy o1 o2 o3 hZ hM hT2 hW2 hAll' hLast' hKF'
              go_upto_region 22 with (fail)
              rw [← hW2'.out]
              clear q1 q2 q3 hlt hi
              go_upto_region 24 with (first
                | (go_at_call 18; (first | with_reducible refine Calls.mono (hT'.out.commit hcx'.out (by omega)) ?_ | with_reducible refine Calls.mono (hT'.out.commit2 hcy'.out (by omega)) ?_); rintro e wX ⟨rfl, G3, hT3⟩; replace hT' := Lib.hid hT3; clear hT3)
                | (go_at_call 19; (first | with_reducible refine Calls.mono (last_any hT'.out.x.log) ?_ | with_reducible refine Calls.mono (last_any hT'.out.y.log) ?_); rintro e wX ⟨rfl, he⟩; obtain rfl := he.symm))
              clear hcx' hcy' hW2' hbt'
              go_wp2
              go_loopg [17] 256 (fun gk iv wr => ∃ (i : Nat) (Gx Gy : Nat → Prop), i ≤ 256 ∧ gk = 256 - i ∧ iv = .int .i64 i ∧ Two w wr lx ax gx ly ay gy 50 12 Z Z (-1) (-1) M M F F [] [] Gx Gy)
              case atStart => exact ⟨0, _, _, Nat.zero_le _, rfl, rfl, hT'.out⟩
              case round =>
                clear hT'
                obtain ⟨i3, Gx, Gy, hi, hgk, rfl, hT⟩ := hrel
                have hT' := Lib.hid hT; have hgk' := Lib.hid hgk
                have p1 := (show wr.cell? ⟨ax, 0, none⟩ = some (.slice (some ⟨gx, 0, none⟩) 256 256) from cell_at hT.x.area.1)
                have p2 := (show wr.cell? ⟨ay, 0, none⟩ = some (.slice (some ⟨gy, 0, none⟩) 256 256) from cell_at hT.y.area.1)
                have p3 := hT.x.area.lt.1
                have p4 := hT.y.area.lt.1
                clear hT hgk
                by_cases hlt : i3 < 256
                · have hl := hT'.out.x.area.2.2
                  obtain ⟨x, hx⟩ : ∃ x, Z[i3]? = some x := ⟨_, List.getElem?_eq_getElem (by omega)⟩
                  have k1 := hT'.out.x.area.cell i3
                  have k2 := hT'.out.y.area.cell i3
                  rw [hx] at k1 k2
                  simp only [Option.map_some] at k1 k2
                  clear hx hl
                  go_upto_region 27 with (fail)
                  go_region
                  go_wp2
                  go_roundg (256 - (i3 + 1))
                  case rel => exact ⟨i3 + 1, _, _, by omega, rfl, by go_num, by first | exact hT'.out | exact hT'.out.fr0 (Fr.refl [] wr).drew⟩
                  case measure => rw [hgk'.out]; omega
                · clear hgk'
                  go_upto_region 30 with (first
                    | (go_at_call 16; refine (open_la (base := 50) (slots := 12) hT'.out.x.area (by omega) (by omega) (by omega) (by omega) o3'.out o1'.out o2'.out).mono ?_; rintro e w9 ⟨lz, rfl, hf9, hlz, hl9⟩; have hz' := Lib.hid hl9; replace hT' := Lib.hid (hT'.out.fr0 hf9); clear hf9 hl9))
                  clear p1 p2 p3 p4 hlt hi
                  have hq' : Hid True := Lib.hid trivial
                  go_wp2_with (first
                    | (go_at_call 22; (first | with_reducible refine Calls.mono (hz'.out.live) ?_ | with_reducible refine Calls.mono (hT'.out.y.live) ?_); rintro e wX ⟨a2, c2, rfl, hc2, hf, ho⟩; replace hz' := Lib.hid (hz'.out.fr0 hf); replace hT' := Lib.hid (hT'.out.fr0 hf); (try (replace hq' := Lib.hid (hq'.out.fr hf (by simp)))); have hs' := Lib.hid (SliceIs.of_owns ho rfl); clear hf ho)
                    | (go_at_call 21; refine (theirs_any _ F _ hs'.out (by omega)).mono ?_; rintro e wX ⟨a3, c3, rfl, hf, ho⟩; replace hz' := Lib.hid (hz'.out.fr0 hf); replace hT' := Lib.hid (hT'.out.fr0 hf); (try (have hp' := Lib.hid (hq'.out.fr hf (by simp)))); replace hq' := Lib.hid (SliceIs.of_owns ho rfl); clear hf ho)
                    | (go_at_call 20; refine (same_any _ _ F _ hp'.out hq'.out (by omega)).mono ?_; rintro e wX ⟨rfl, hf⟩; replace hT' := Lib.hid (hT'.out.fr0 hf); clear hf))
                  go_ret
                  exact ⟨rfl, hT'.out.fr⟩
end Go.Proofs.Ytcbccogpogdbmaa
