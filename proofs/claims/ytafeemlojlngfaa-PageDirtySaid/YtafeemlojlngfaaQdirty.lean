/- The law PageDirty, walked. -/
import Derived.Test.YtafeemlojlngfaaQdtp
import Derived.Test.YtafeemlojlngfaaLater
import Derived.Deep.RegionHeld3
namespace Go.Proofs.Ytafeemlojlngfaa
open Go.RowKit Go.Maps Go.Lib Go.Sort
set_option maxRecDepth 100000 in
set_option maxHeartbeats 16000000 in
theorem dirty_law {B : Nat → Prop} (n : Int) (v : Value) (S : List St) (r : Int × Int) (w : World) (hn0 : 0 ≤ n) (hn1 : n ≤ 255) (h : SliceIs w B encSt v S) :
    Calls Try.prog 6 #[.int .u8 n, v, .agg #[.int .i64 r.1, .int .i64 r.2]] w fun e w' => e = .returned (.bool true) ∧ Fr [] w w' := by
  obtain ⟨r1, r2⟩ := r
  dsimp only
  obtain ⟨W0, hW0⟩ : ∃ W, W = w.alloc (.cells #[.int .i64 r1, .int .i64 r2] 33) := ⟨_, rfl⟩
  have hf0 : Fr [] w W0 := by rw [hW0]; exact (Fr.refl _ _).alloc _
  have hbx : W0.heap[w.heap.size]? = some (.cells #[.int .i64 r1, .int .i64 r2] 33 (0, 0)) := by rw [hW0]; exact heap_alloc_new w _
  have hhv := heavy_any v S W0 (h.fr hf0 (by simp))
  have hsh := shown_any
  obtain ⟨a, cap, rfl, hc1, hc2, hat⟩ := h.at encSt_len
  have hat' := Lib.hid hat; have hW0' := Lib.hid hW0; have hbx' := Lib.hid hbx
  clear hat h
  have hsh1 := hsh W0
  by_cases hv : heavyS S = true
  · rw [hv] at hhv
    rw [hW0] at hhv hsh1
    clear hv hW0 hbx
    go_enter Try.func6, Try.ntmps6
    go_wp2_with (first | (go_at_call 8; refine hhv.mono ?_; rintro e w1 ⟨rfl, hw1⟩; have hw2 := hw1.symm; subst hw2) | (go_at_call 9; refine hsh1.mono ?_; rintro e w2 ⟨rfl, hf2⟩))
    go_ret
    exact ⟨rfl, hf0.trans (by rw [hW0'.out]; exact hf2)⟩
  rw [Bool.not_eq_true] at hv
  have hlen : S.length ≤ 150 := by
    unfold heavyS at hv
    simp only [Bool.or_eq_false_iff, decide_eq_false_iff_not] at hv
    omega
  rw [hv] at hhv
  clear hv
  obtain ⟨m, hm⟩ : ∃ m, m = (max 1 (min (n % 20) 64)).toNat := ⟨_, rfl⟩
  have hnew : ∀ X, _ := fun X => new_any (n % 20) X
  have hrnew : ∀ X, _ := fun X => rnew_any (n % 20) X
  rw [← hm] at hnew hrnew
  have hnew' := Lib.hid hnew; have hrnew' := Lib.hid hrnew
  rw [hW0] at hhv hsh1
  clear hm hnew hrnew hbx hW0 hsh
  go_enter Try.func6, Try.ntmps6
  go_wp2_with (first | (go_at_call 8; refine hhv.mono ?_; rintro e w1 ⟨rfl, hw1⟩; have hw2 := hw1.symm; subst hw2) | (go_at_call 9; refine hsh1.mono ?_; rintro e w2 ⟨rfl, hf2⟩; have hn2 := hnew'.out w2) | (go_at_call 10; refine hn2.mono ?_; rintro e w3 ⟨cb, bm, rg, rfl, hf3, l1, l2, l3, hC⟩; have hn3 := hrnew'.out w3; unfold ptr) | (go_at_call 11; refine hn3.mono ?_; rintro e w4 ⟨rfl, hf4, hR⟩; unfold ptr))
  rw [← hW0'.out] at hf2
  have hfw2 : Fr [] w w2 := hf0.trans hf2
  have hz2 := hf2.size
  have hz0 : W0.heap.size = w.heap.size + 1 := by rw [hW0'.out]; simp
  have hz3 := hf3.size
  have hst := Both.start l1 l2 l3 hC hf4 hz3 hR
  obtain ⟨rb, hrb⟩ : ∃ rb, rb = w3.heap.size := ⟨_, rfl⟩
  rw [← hrb] at hst ⊢
  have hF := hf3.trans hf4
  have hst' := Lib.hid hst; have hrb' := Lib.hid hrb
  have hb2 := hf2.keep hbx'.out (by simp)
  have hb2' := Lib.hid hb2; have hz0' := Lib.hid hz0
  have hzw : w.heap.size < w2.heap.size := by omega
  clear hn2 hn3 hst hC hR hrb hsh1 hhv hb2 hz0
  go_loopg [9] S.length (fun gk iv wr => ∃ (i : Nat) (P : List Pg), i ≤ S.length ∧ gk = S.length - i ∧ iv = .int .i64 i ∧ Both wr w2.heap.size wr.heap.size cb bm rg rb m P ∧ InS P ∧ Fr [] w2 wr)
  case atStart => exact ⟨0, [], Nat.zero_le _, rfl, rfl, hst'.out, fun p hp => by simp at hp, hF⟩
  case round =>
    obtain ⟨i, P, hi, hgk, rfl, hB, hS, hfr⟩ := hrel
    have hgk' := Lib.hid hgk; clear hgk
    have hzr := hfr.size
    by_cases hlt : i < S.length
    · obtain ⟨g, off, rfl, _, hg2, hcells⟩ := hat'.out (by rintro rfl; simp at hlt)
      obtain ⟨x, hx⟩ : ∃ x, S[i]? = some x := ⟨_, List.getElem?_eq_getElem hlt⟩
      have hcr : ∀ j u, (encSt x)[j]? = some u → wr.cell? ⟨g, off + i * 7 + j, none⟩ = some u := fun j u hj => by rw [(hfw2.trans hfr).cell (p := ⟨g, _, none⟩) hg2 (by simp), Nat.add_assoc]; exact hcells i x j u hx hj
      have k0 := hcr 0 _ rfl
      have k1 := hcr 1 _ rfl
      have k2 := hcr 2 _ rfl
      have k3 := hcr 3 _ rfl
      have k4 := hcr 4 _ rfl
      have k5 := hcr 5 _ rfl
      have k6 := hcr 6 _ rfl
      rw [Nat.add_zero] at k0
      have hdo := does_any hB hzr (Nat.le_refl _) x
      have hS1 := hS.step (n := m) x
      obtain ⟨P1, hP1⟩ : ∃ P1, P1 = stepP m P x := ⟨_, rfl⟩
      rw [← hP1] at hdo hS1
      have hS1' := Lib.hid hS1
      obtain ⟨x0, ⟨x1, x2, x3, x4⟩, x5, x6⟩ := x
      unfold aggSt at hdo
      dsimp only at k0 k1 k2 k3 k4 k5 k6 hdo
      clear hcells hx hcr hP1 hB hS hS1
      go_wp2_with (first | (go_at_call 12; refine hdo.mono ?_; rintro e w5 ⟨rfl, hB1, hF1⟩; have hf5 := hF1.fr hfr))
      go_roundg (S.length - (i + 1))
      case rel => exact ⟨i + 1, P1, by omega, rfl, by go_num, hB1, hS1'.out, hf5⟩
      case measure => rw [hgk'.out]; omega
    · have he : i = S.length := by omega
      subst he
      have hnd := hB.nodup
      have hfew := hB.few
      have hso := hB.solo
      have hA0 := sdirty hso 0 256
      have hD0 : ∀ X, Fr [] wr X → _ := fun X hX => sdirty (hso.fr0 hX) r1 r2
      have hDA := dirty_all hnd hS r1 r2
      have hsrt := dirtyP_srt hnd 0 256
      have hAl : (dirtyP P 0 256).length ≤ 64 := by have := dirtyP_len P 0 256; omega
      have hDl : (dirtyP P r1 r2).length ≤ 64 := by have := dirtyP_len P r1 r2; omega
      have hDnd := dirtyP_nodup hnd r1 r2
      have hold := old_head P
      have hL0 := left_start P r1 r2
      have hdf := drop_first P r1 r2
      obtain ⟨A, hA⟩ : ∃ A, A = dirtyP P 0 256 := ⟨_, rfl⟩
      obtain ⟨D, hD⟩ : ∃ D, D = dirtyP P r1 r2 := ⟨_, rfl⟩
      rw [← hA] at hA0 hDA hsrt hAl hold
      rw [← hD] at hDA hDl hDnd hL0 hdf
      simp only [← hD] at hD0
      have hb5 := hfr.keep hb2'.out (by simp)
      have hb5' := Lib.hid hb5; have hD0' := Lib.hid hD0; have hDA' := Lib.hid hDA; have hsrt' := Lib.hid hsrt; have hold' := Lib.hid hold; have hL0' := Lib.hid hL0; have hDnd' := Lib.hid hDnd; have hnd' := Lib.hid hnd
      have hdf' := Lib.hid hdf
      clear hnd hb5 hA hD hD0 hDA hsrt hS hold hL0 hDnd hdf
      go_wp2_with (first | (go_at_call 23; refine hA0.mono ?_; rintro e w5 ⟨v5, rfl, hf5, hs5⟩; have hb6 := hf5.keep hb5'.out (by simp); have b0 := (show w5.cell? ⟨w.heap.size, 0, none⟩ = some (.int .i64 r1) from cell_at hb6); have b1 := (show w5.cell? ⟨w.heap.size, 1, none⟩ = some (.int .i64 r2) from cell_at hb6); have lb := lt_of_cell b0; have hDc := hD0'.out w5 hf5; clear hA0 hb6) | (go_at_call 23; refine hDc.mono ?_; rintro e w6 ⟨v6, rfl, hf6, hs6⟩; have hs5' := hs5.fr hf6 (by simp); obtain ⟨a5, cap5, rfl, _, _, hat5⟩ := hs5'.at encPg_len; obtain ⟨a6, cap6, rfl, _, _, hat6⟩ := hs6.at encPg_len; have hat5' := Lib.hid hat5; have hat6' := Lib.hid hat6; clear hat5 hat6))
      have hAc : A ≠ [] → ∃ g off, a5 = some ⟨g, off, none⟩ ∧ g < w6.heap.size ∧ ∀ i x j u, A[i]? = some x → (encPg x)[j]? = some u → w6.cell? ⟨g, off + (i * 4 + j), none⟩ = some u := by
        intro hne
        obtain ⟨g, off, h1, _, h3, h4⟩ := hat5'.out hne
        exact ⟨g, off, h1, h3, h4⟩
      have hDc2 : ∃ gD offD, (wr.heap.size ≤ gD ∨ gD < w2.heap.size) ∧ gD < w6.heap.size ∧ (D ≠ [] → a6 = some ⟨gD, offD, none⟩) ∧ ∀ i x j u, D[i]? = some x → (encPg x)[j]? = some u → w6.cell? ⟨gD, offD + (i * 4 + j), none⟩ = some u := by
        by_cases hne : D = []
        · refine ⟨w.heap.size, 0, .inr hzw, ?_, fun h => absurd hne h, fun i x j u hi => by rw [hne] at hi; simp at hi⟩
          have := hf6.size
          have := hf5.size
          omega
        · obtain ⟨g, off, h1, h2, h3, h4⟩ := hat6'.out hne
          exact ⟨g, off, .inl (by have := hf5.size; omega), h3, fun _ => h1, h4⟩
      obtain ⟨gD, offD, hgM, hgl, ha6, hDc3⟩ := hDc2
      have hAc' := Lib.hid hAc; have hDc' := Lib.hid hDc3; have ha6' := Lib.hid ha6
      have hS6 : Solo w6 w2.heap.size wr.heap.size [gD] cb bm rg m P := ((hso.fr0 (hf5.trans hf6)).guard (by omega))
      have hS6' := Lib.hid hS6
      have hF6 : Fr [] w2 w6 := (hfr.trans hf5).trans hf6
      have hb6 : w6.heap[w.heap.size]? = some (.cells #[.int .i64 r1, .int .i64 r2] 33 (0, 0)) := (hf5.trans hf6).keep hb5'.out (by simp)
      have q0 : w6.cell? ⟨w.heap.size, 0, none⟩ = some (.int .i64 r1) := cell_at hb6
      have q1 : w6.cell? ⟨w.heap.size, 1, none⟩ = some (.int .i64 r2) := cell_at hb6
      have lq := lt_of_cell q0
      have hb6' := Lib.hid hb6
      have hz6 : wr.heap.size ≤ w6.heap.size := (hf5.trans hf6).size
      clear hDc hAc hDc3 ha6 hso hs5 hs5' hs6 hS6 hb6 hB b0 b1 lb hat'
      obtain ⟨wo, rfl⟩ : ∃ wo : World, wo = wr := ⟨_, rfl⟩
      go_loopg [12, 13] A.length (fun gk kv iv wi => ∃ i : Nat, i ≤ A.length ∧ gk = A.length - i ∧ iv = .int .i64 i ∧ kv = .int .i64 (kc A r1 r2 i : Nat) ∧ ∃ q, wi = w6.drewN q)
      case atStart => exact ⟨0, Nat.zero_le _, rfl, rfl, rfl, 0, rfl⟩
      case round =>
        obtain ⟨i, hi2, hgk2, rfl, rfl, q, rfl⟩ := hrel
        have hgk2' := Lib.hid hgk2; clear hgk2
        by_cases hit : i < A.length
        · obtain ⟨x, hx⟩ : ∃ x, A[i]? = some x := ⟨_, List.getElem?_eq_getElem hit⟩
          obtain ⟨g5, off5, rfl, hg5, hcA⟩ := hAc'.out (by rintro rfl; simp at hit)
          have hxc : ∀ j u, (encPg x)[j]? = some u → w6.cell? ⟨g5, off5 + i * 4 + j, none⟩ = some u := fun j u hj => by rw [Nat.add_assoc]; exact hcA i x j u hx hj
          have x0c := hxc 0 _ rfl
          have x1c := hxc 1 _ rfl
          have x2c := hxc 2 _ rfl
          have x3c := hxc 3 _ rfl
          rw [Nat.add_zero] at x0c
          have hks := kc_step (r1 := r1) (r2 := r2) hx
          have hprev : i = 0 ∨ ∃ j y, i = j + 1 ∧ A[j]? = some y ∧ (y.2.2.2 < x.2.2.2 ∨ y.2.2.2 = x.2.2.2 ∧ y.1 < x.1) := by
            cases i with
            | zero => exact .inl rfl
            | succ j =>
              obtain ⟨y, hy⟩ : ∃ y, A[j]? = some y := ⟨_, List.getElem?_eq_getElem (by omega)⟩
              exact .inr ⟨j, y, rfl, hy, srt_next hsrt'.out hy hx⟩
          have hka : inR r1 r2 x.1 = true → D[kc A r1 r2 i]? = some x := fun h => by rw [hDA'.out]; exact kc_at hx h
          have hkl : kc A r1 r2 i ≤ 64 := by
            unfold kc
            refine Nat.le_trans (List.length_filter_le _ _) ?_
            rw [List.length_take]; omega
          obtain ⟨k, hk⟩ : ∃ k, k = kc A r1 r2 i := ⟨_, rfl⟩
          rw [← hk] at hks hka hkl ⊢
          have hks' := Lib.hid hks; have hka' := Lib.hid hka
          obtain ⟨x1, x2, x3, x4⟩ := x
          dsimp only at x0c x1c x2c x3c hprev
          have lx := lt_of_cell x0c
          have hcA' := Lib.hid hcA
          clear hxc hx hks hka hk hcA
          rcases hprev with rfl | ⟨j, y, rfl, hy, hlt2 | ⟨heq, hlt2⟩⟩
          · clear hcA'
            simp only [Nat.zero_mul, Nat.add_zero] at x0c x1c x2c x3c
            by_cases e1 : r1 ≤ x1
            · by_cases e2 : x1 < r2
              · have hin : inR r1 r2 x1 = true := by unfold inR; simp only [decide_eq_true_eq]; exact ⟨e1, e2⟩
                have hks2 : kc A r1 r2 (0 + 1) = k + 1 := by rw [hks'.out, if_pos hin]
                have hks2 := Lib.hid hks2
                have hDk := hka'.out hin
                have hkD : k < D.length := (List.getElem?_eq_some_iff.1 hDk).1
                have hD0 : D ≠ [] := by rintro rfl; simp at hkD
                have ha6e := ha6'.out hD0
                subst ha6e
                have z := fun j u hj => hDc'.out k (x1, x2, x3, x4) j u hDk hj
                have z0 := z 0 _ rfl
                have z1 := z 1 _ rfl
                have z2 := z 2 _ rfl
                have z3 := z 3 _ rfl
                rw [Nat.add_zero] at z0
                simp only [← Nat.add_assoc] at z1 z2 z3
                dsimp only at z0 z1 z2 z3
                have lz := lt_of_cell z0
                clear z hDk hD0 hin
                go_wp2
                go_quiet (fail)
                obtain ⟨n1, rfl⟩ : ∃ n1, n1 = nq := ⟨_, rfl⟩
                go_wp2
                go_quiet (fail)
                obtain ⟨n2, rfl⟩ : ∃ n2, n2 = nq := ⟨_, rfl⟩
                go_wp2
                go_quiet (fail)
                obtain ⟨n3, rfl⟩ : ∃ n3, n3 = nq := ⟨_, rfl⟩
                go_wp2
                go_roundg (A.length - (0 + 1))
                case rel => exact ⟨0 + 1, by omega, rfl, by go_num, by rw [hks2.out]; go_num, q + n1 + n2 + n3, rfl⟩
                case measure => rw [hgk2'.out]; omega
              · have e2' : decide (x1 < r2) = false := by simpa using e2
                have hin : ¬ inR r1 r2 x1 = true := by unfold inR; simp only [decide_eq_true_eq]; omega
                have hks2 : kc A r1 r2 (0 + 1) = k := by rw [hks'.out, if_neg hin]; rfl
                have hks2 := Lib.hid hks2
                clear hin
                go_wp2
                go_quiet (fail)
                obtain ⟨n1, rfl⟩ : ∃ n1, n1 = nq := ⟨_, rfl⟩
                go_wp2
                go_quiet (fail)
                obtain ⟨n2, rfl⟩ : ∃ n2, n2 = nq := ⟨_, rfl⟩
                go_wp2
                go_roundg (A.length - (0 + 1))
                case rel => exact ⟨0 + 1, by omega, rfl, by go_num, by rw [hks2.out], q + n1 + n2, rfl⟩
                case measure => rw [hgk2'.out]; omega
            · have e1' : decide (r1 ≤ x1) = false := by simpa using e1
              have hin : ¬ inR r1 r2 x1 = true := by unfold inR; simp only [decide_eq_true_eq]; omega
              have hks2 : kc A r1 r2 (0 + 1) = k := by rw [hks'.out, if_neg hin]; rfl
              have hks2 := Lib.hid hks2
              clear hin
              go_wp2
              go_quiet (fail)
              obtain ⟨n1, rfl⟩ : ∃ n1, n1 = nq := ⟨_, rfl⟩
              go_wp2
              go_quiet (fail)
              obtain ⟨n2, rfl⟩ : ∃ n2, n2 = nq := ⟨_, rfl⟩
              go_wp2
              go_roundg (A.length - (0 + 1))
              case rel => exact ⟨0 + 1, by omega, rfl, by go_num, by rw [hks2.out], q + n1 + n2, rfl⟩
              case measure => rw [hgk2'.out]; omega
          · have y3c : w6.cell? ⟨g5, off5 + j * 4 + 3, none⟩ = some (.int .i64 y.2.2.2) := by rw [Nat.add_assoc]; exact hcA'.out j y 3 _ hy rfl
            obtain ⟨y1, y2, y3, y4⟩ := y
            dsimp only at y3c hlt2
            have p1 : decide (x4 < y4) = false := by simp; omega
            have p2 : (x4 == y4) = false := by rw [beq_eq_false_iff_ne]; omega
            have hj0 : (0 : Int) < ((j + 1 : Nat) : Int) := by omega
            have hj1 : (0 : Int) ≤ (j : Int) + 1 := by omega
            have hj2 : (j : Int) + 1 < (A.length : Int) := by omega
            clear hy hcA'
            by_cases e1 : r1 ≤ x1
            · by_cases e2 : x1 < r2
              · have hin : inR r1 r2 x1 = true := by unfold inR; simp only [decide_eq_true_eq]; exact ⟨e1, e2⟩
                have hks2 : kc A r1 r2 ((j + 1) + 1) = k + 1 := by rw [hks'.out, if_pos hin]
                have hks2 := Lib.hid hks2
                have hDk := hka'.out hin
                have hkD : k < D.length := (List.getElem?_eq_some_iff.1 hDk).1
                have hD0 : D ≠ [] := by rintro rfl; simp at hkD
                have ha6e := ha6'.out hD0
                subst ha6e
                have z := fun j u hj => hDc'.out k (x1, x2, x3, x4) j u hDk hj
                have z0 := z 0 _ rfl
                have z1 := z 1 _ rfl
                have z2 := z 2 _ rfl
                have z3 := z 3 _ rfl
                rw [Nat.add_zero] at z0
                simp only [← Nat.add_assoc] at z1 z2 z3
                dsimp only at z0 z1 z2 z3
                have lz := lt_of_cell z0
                clear z hDk hD0 hin
                go_wp2
                go_quiet (fail)
                obtain ⟨n1, rfl⟩ : ∃ n1, n1 = nq := ⟨_, rfl⟩
                go_wp2
                go_quiet (fail)
                obtain ⟨n2, rfl⟩ : ∃ n2, n2 = nq := ⟨_, rfl⟩
                go_wp2
                go_quiet (fail)
                obtain ⟨n3, rfl⟩ : ∃ n3, n3 = nq := ⟨_, rfl⟩
                go_wp2
                go_roundg (A.length - ((j + 1) + 1))
                case rel => exact ⟨(j + 1) + 1, by omega, rfl, by go_num, by rw [hks2.out]; go_num, q + n1 + n2 + n3, rfl⟩
                case measure => rw [hgk2'.out]; omega
              · have e2' : decide (x1 < r2) = false := by simpa using e2
                have hin : ¬ inR r1 r2 x1 = true := by unfold inR; simp only [decide_eq_true_eq]; omega
                have hks2 : kc A r1 r2 ((j + 1) + 1) = k := by rw [hks'.out, if_neg hin]; rfl
                have hks2 := Lib.hid hks2
                clear hin
                go_wp2
                go_quiet (fail)
                obtain ⟨n1, rfl⟩ : ∃ n1, n1 = nq := ⟨_, rfl⟩
                go_wp2
                go_quiet (fail)
                obtain ⟨n2, rfl⟩ : ∃ n2, n2 = nq := ⟨_, rfl⟩
                go_wp2
                go_roundg (A.length - ((j + 1) + 1))
                case rel => exact ⟨(j + 1) + 1, by omega, rfl, by go_num, by rw [hks2.out], q + n1 + n2, rfl⟩
                case measure => rw [hgk2'.out]; omega
            · have e1' : decide (r1 ≤ x1) = false := by simpa using e1
              have hin : ¬ inR r1 r2 x1 = true := by unfold inR; simp only [decide_eq_true_eq]; omega
              have hks2 : kc A r1 r2 ((j + 1) + 1) = k := by rw [hks'.out, if_neg hin]; rfl
              have hks2 := Lib.hid hks2
              clear hin
              go_wp2
              go_quiet (fail)
              obtain ⟨n1, rfl⟩ : ∃ n1, n1 = nq := ⟨_, rfl⟩
              go_wp2
              go_quiet (fail)
              obtain ⟨n2, rfl⟩ : ∃ n2, n2 = nq := ⟨_, rfl⟩
              go_wp2
              go_roundg (A.length - ((j + 1) + 1))
              case rel => exact ⟨(j + 1) + 1, by omega, rfl, by go_num, by rw [hks2.out], q + n1 + n2, rfl⟩
              case measure => rw [hgk2'.out]; omega
          · have y3c : w6.cell? ⟨g5, off5 + j * 4 + 3, none⟩ = some (.int .i64 y.2.2.2) := by rw [Nat.add_assoc]; exact hcA'.out j y 3 _ hy rfl
            have y0c : w6.cell? ⟨g5, off5 + j * 4, none⟩ = some (.int .i64 y.1) := hcA'.out j y 0 _ hy rfl
            obtain ⟨y1, y2, y3, y4⟩ := y
            dsimp only at y3c y0c hlt2 heq
            have heq2 := heq.symm
            clear heq
            subst heq2
            have p1 : decide (x1 ≤ y1) = false := by simp; omega
            have hj0 : (0 : Int) < ((j + 1 : Nat) : Int) := by omega
            have hj1 : (0 : Int) ≤ (j : Int) + 1 := by omega
            have hj2 : (j : Int) + 1 < (A.length : Int) := by omega
            clear hy hcA'
            by_cases e1 : r1 ≤ x1
            · by_cases e2 : x1 < r2
              · have hin : inR r1 r2 x1 = true := by unfold inR; simp only [decide_eq_true_eq]; exact ⟨e1, e2⟩
                have hks2 : kc A r1 r2 ((j + 1) + 1) = k + 1 := by rw [hks'.out, if_pos hin]
                have hks2 := Lib.hid hks2
                have hDk := hka'.out hin
                have hkD : k < D.length := (List.getElem?_eq_some_iff.1 hDk).1
                have hD0 : D ≠ [] := by rintro rfl; simp at hkD
                have ha6e := ha6'.out hD0
                subst ha6e
                have z := fun j u hj => hDc'.out k (x1, x2, x3, x4) j u hDk hj
                have z0 := z 0 _ rfl
                have z1 := z 1 _ rfl
                have z2 := z 2 _ rfl
                have z3 := z 3 _ rfl
                rw [Nat.add_zero] at z0
                simp only [← Nat.add_assoc] at z1 z2 z3
                dsimp only at z0 z1 z2 z3
                have lz := lt_of_cell z0
                clear z hDk hD0 hin
                go_wp2
                go_quiet (fail)
                obtain ⟨n1, rfl⟩ : ∃ n1, n1 = nq := ⟨_, rfl⟩
                go_wp2
                go_quiet (fail)
                obtain ⟨n2, rfl⟩ : ∃ n2, n2 = nq := ⟨_, rfl⟩
                go_wp2
                go_quiet (fail)
                obtain ⟨n3, rfl⟩ : ∃ n3, n3 = nq := ⟨_, rfl⟩
                go_wp2
                go_roundg (A.length - ((j + 1) + 1))
                case rel => exact ⟨(j + 1) + 1, by omega, rfl, by go_num, by rw [hks2.out]; go_num, q + n1 + n2 + n3, rfl⟩
                case measure => rw [hgk2'.out]; omega
              · have e2' : decide (x1 < r2) = false := by simpa using e2
                have hin : ¬ inR r1 r2 x1 = true := by unfold inR; simp only [decide_eq_true_eq]; omega
                have hks2 : kc A r1 r2 ((j + 1) + 1) = k := by rw [hks'.out, if_neg hin]; rfl
                have hks2 := Lib.hid hks2
                clear hin
                go_wp2
                go_quiet (fail)
                obtain ⟨n1, rfl⟩ : ∃ n1, n1 = nq := ⟨_, rfl⟩
                go_wp2
                go_quiet (fail)
                obtain ⟨n2, rfl⟩ : ∃ n2, n2 = nq := ⟨_, rfl⟩
                go_wp2
                go_roundg (A.length - ((j + 1) + 1))
                case rel => exact ⟨(j + 1) + 1, by omega, rfl, by go_num, by rw [hks2.out], q + n1 + n2, rfl⟩
                case measure => rw [hgk2'.out]; omega
            · have e1' : decide (r1 ≤ x1) = false := by simpa using e1
              have hin : ¬ inR r1 r2 x1 = true := by unfold inR; simp only [decide_eq_true_eq]; omega
              have hks2 : kc A r1 r2 ((j + 1) + 1) = k := by rw [hks'.out, if_neg hin]; rfl
              have hks2 := Lib.hid hks2
              clear hin
              go_wp2
              go_quiet (fail)
              obtain ⟨n1, rfl⟩ : ∃ n1, n1 = nq := ⟨_, rfl⟩
              go_wp2
              go_quiet (fail)
              obtain ⟨n2, rfl⟩ : ∃ n2, n2 = nq := ⟨_, rfl⟩
              go_wp2
              go_roundg (A.length - ((j + 1) + 1))
              case rel => exact ⟨(j + 1) + 1, by omega, rfl, by go_num, by rw [hks2.out], q + n1 + n2, rfl⟩
              case measure => rw [hgk2'.out]; omega
        · have he : i = A.length := by omega
          subst he
          have hkl : kc A r1 r2 A.length = D.length := by rw [kc_all, hDA'.out]
          rw [hkl]
          clear hkl
          have hWq : Fr [] w6 (w6.drewN q) := (Fr.refl _ _).drewN q
          obtain ⟨w7, hw7⟩ : ∃ w7, w7 = w6.drewN q := ⟨_, rfl⟩
          have hF67 : Fr [] w6 w7 := by rw [hw7]; exact hWq
          have hS7 := hS6'.out.fr0 hF67
          have hcold : ∀ X : Later w7, _ := fun X => sold (hS7.fr0 X.fr)
          have hcold' := Lib.hid hcold
          have hb7 := hF67.keep hb6'.out (by simp)
          have hb7' := Lib.hid hb7; have hS7' := Lib.hid hS7
          have hkl2 : ((D.length : Int) != D.length) = false := by simp
          rw [← hw7]
          clear hcold hb7 hS7 hw7 hWq q0 q1 lq
          have hleft : ∀ wz : World, Fr [] w7 wz → Fr [] w2 wz := fun wz hz => (hF6.trans hF67).trans hz
          have hleft' := Lib.hid hleft
          clear hleft
          rcases hold'.out with ⟨hA0, ho⟩ | ⟨x, T, hA1, ho⟩
          · clear hAc'
            have hdz : D = [] := by rw [hDA'.out, hA0]; rfl
            have hdz' := Lib.hid hdz; clear hdz
            have hAl0 : A.length = 0 := by rw [hA0]; rfl
            rw [ho] at hcold'
            rw [hAl0]
            clear hA0 ho hAl0
            go_wp2
            refine wp_region_later (by kernel_rfl) (by kernel_rfl) ?_
            repeat (go_big_quiet_step ((go_at_call 16; refine Calls.later_of0 (hcold'.out _))))
            refine wpQuiet_nil ?_
            intro w8 hw'
            have hf8 : Fr [] w7 w8 := by
              obtain ⟨p, rfl⟩ := hw'
              exact p.fr
            clear hw'
            have hS8 : Solo w8 w2.heap.size wo.heap.size [gD] cb bm rg m P := hS7'.out.fr0 hf8
            have hG8 : Fr [] w2 w8 := hleft'.out w8 hf8
            have hbo := hf8.keep hb7'.out (by simp)
            have p0 := (show w8.cell? ⟨w.heap.size, 0, none⟩ = some (.int .i64 r1) from cell_at hbo)
            have p1 := (show w8.cell? ⟨w.heap.size, 1, none⟩ = some (.int .i64 r2) from cell_at hbo)
            have lp := lt_of_cell p0
            have hz8 : wo.heap.size ≤ w8.heap.size := by
              have := hF67.size
              have := hf8.size
              omega
            have hgD8 : gD < w8.heap.size := by
              have := hF67.size
              have := hf8.size
              omega
            have hDrop := sdrop hS8 hzr hz8 (fun z hz => by simp at hz; subst hz; exact hgD8) r1 r2
            have hDc8 : ∀ i x j u, D[i]? = some x → (encPg x)[j]? = some u → w8.cell? ⟨gD, offD + (i * 4 + j), none⟩ = some u := fun i x j u hi hj => by
              rw [hf8.cell (p := ⟨gD, _, none⟩) (Nat.lt_of_lt_of_le hgl hF67.size) (by simp), hF67.cell (p := ⟨gD, _, none⟩) hgl (by simp)]
              exact hDc'.out i x j u hi hj
            have hDc8' := Lib.hid hDc8; have hbo' := Lib.hid hbo; have hG8' := Lib.hid hG8
            have hzr' : w2.heap.size ≤ w8.heap.size := by omega
            clear hDc8 hbo hS8 hG8
            obtain ⟨P1, hP1⟩ : ∃ P1, P1 = (dropP P r1 r2).2 := ⟨_, rfl⟩
            rw [← hP1] at hDrop
            rcases hdf'.out with hd | hd
            · exact absurd hdz'.out hd.2.2
            · obtain ⟨d1, d2, d3⟩ := hd
              have hD3 : D = [] := by first | exact d2 | (rw [hDeq'.out]; exact d2)
              have hL1 : Left P1 r1 r2 D := by rw [hP1, hD3]; exact d3
              rw [d1] at hDrop
              have hDlz : D.length = 0 := by rw [hD3]; rfl
              have hDl0 : ¬ 0 < D.length := by omega
              have hDl1 : ¬ (0 : Int) < (D.length : Int) := by omega
              have hDl2 : decide ((0 : Int) < (D.length : Int)) = false := by simp; omega
              have hDl3 : decide (0 < D.length) = false := by simp; omega
              have hL1' := Lib.hid hL1; have hP1' := Lib.hid hP1
              clear d1 d2 d3 hD3 hL1 hP1 hDlz
              go_wp2_with (go_at_call 22; refine hDrop.mono ?_; rintro e w9 ⟨rfl, hS9, hF9⟩)
              clear hDrop
              have hS9' := Lib.hid hS9; have hF9' := Lib.hid hF9
              have hz9 := hF9.size
              clear hS9 hF9
              go_loopg [16] D.length (fun gk iv wi => ∃ (i : Nat) (P' : List Pg), i ≤ D.length ∧ gk = D.length - i ∧ iv = .int .i64 i ∧ Solo wi w2.heap.size wi.heap.size [gD] cb bm rg m P' ∧ FrZ w2.heap.size [gD] w8 wi ∧ Left P' r1 r2 (D.drop i))
              case atStart => exact ⟨0, P1, Nat.zero_le _, rfl, rfl, hS9'.out, hF9'.out, hL1'.out⟩
              case round =>
                obtain ⟨i, P', hi, hgk3, rfl, hSi, hFi, hLi⟩ := hrel
                have hgk3' := Lib.hid hgk3; clear hgk3
                have hzi := hFi.size
                by_cases hit : i < D.length
                · obtain ⟨x, hx⟩ : ∃ x, D[i]? = some x := ⟨_, List.getElem?_eq_getElem hit⟩
                  have hD0 : D ≠ [] := by rintro rfl; simp at hit
                  have ha6e := ha6'.out hD0
                  subst ha6e
                  have hxi : D.drop i = x :: D.drop (i + 1) := by
                    obtain ⟨h1, rfl⟩ := List.getElem?_eq_some_iff.1 hx
                    exact (List.getElem_cons_drop (h := h1)).symm
                  have hndD : ((x :: D.drop (i + 1)).map (·.1)).Nodup := by
                    rw [← hxi]
                    exact (hDnd'.out).sublist ((List.drop_sublist i D).map _)
                  have hcl := clean_left hSi.nodup hndD (by rw [← hxi]; exact hLi)
                  have hgi : ∀ X : World, FrZ w2.heap.size [gD] wr X → FrZ w2.heap.size [gD] w8 X := fun X hX => hFi.trans hX
                  have hcx : ∀ X : World, FrZ w2.heap.size [gD] w8 X → ∀ j u, (encPg x)[j]? = some u → X.cell? ⟨gD, offD + i * 4 + j, none⟩ = some u := fun X hX j u hj => by
                    rw [hX.cell (k := gD) (.inl (by simp)) hgD8, Nat.add_assoc]
                    exact hDc8'.out i x j u hx hj
                  have hcx0 := hcx wr hFi
                  have z0 := hcx0 0 _ rfl
                  have z1 := hcx0 1 _ rfl
                  rw [Nat.add_zero] at z0
                  have lz := lt_of_cell z0
                  have hdn : D.drop (i + 1) = (D.drop i).tail := by rw [hxi]; rfl
                  obtain ⟨P2, hP2⟩ : ∃ P2, P2 = (cleanP P' x.1 x.2.1).2 := ⟨_, rfl⟩
                  rw [← hP2] at hcl
                  obtain ⟨hc1, hc2, hc3, hc4⟩ := hcl
                  have hK1 : ∀ X : World, Fr [] wr X → Calls Try.prog 21 #[.pointer (some ⟨cb, 0, none⟩), .int .i64 x.1, .int .i64 x.2.1] X (SoloOut w2.heap.size [gD] cb bm rg m P2 (.int .i64 0) X) := fun X hX => by
                    have := sclean (hSi.fr0 hX) (by omega) hX.size (fun z hz => by simp at hz; subst hz; have := hX.size; omega) x.1 x.2.1
                    rw [hc1, ← hP2] at this
                    exact this
                  have hK2 : ∀ X : World, Solo X w2.heap.size X.heap.size [gD] cb bm rg m P2 → FrZ w2.heap.size [gD] w8 X → Calls Try.prog 21 #[.pointer (some ⟨cb, 0, none⟩), .int .i64 x.1, .int .i64 x.2.1] X (SoloOut w2.heap.size [gD] cb bm rg m P2 (.int .i64 3) X) := fun X hX hF => by
                    have := sclean hX (by have := hF.size; omega) (Nat.le_refl _) (fun z hz => by simp at hz; subst hz; have := hF.size; omega) x.1 x.2.1
                    rw [hc4] at this
                    exact this
                  have hK1' := Lib.hid hK1; have hK2' := Lib.hid hK2; have hcx' := Lib.hid hcx; have hgi' := Lib.hid hgi; have hc2' := Lib.hid hc2
                  obtain ⟨x1, x2, x3, x4⟩ := x
                  dsimp only at hK1' hK2' z0 z1
                  clear hx hxi hndD hcx0 hdn hc1 hc2 hc3 hc4 hP2 hD0 hK1 hK2 hcx hgi hSi hLi hFi
                  go_wp2
                  go_region_held3 (fun w' => w'.cell? ⟨gD, offD + i * 4, none⟩ = some (.int .i64 x1) ∧ w'.cell? ⟨gD, offD + i * 4 + 1, none⟩ = some (.int .i64 x2)) (first | go_keep | exact ⟨y0, y1⟩ | exact ⟨v0, v1⟩)
                    (first | (go_at_call 21; refine (hK1'.out _ (Fr.refl _ _).drew).mono ?_; rintro e w10 ⟨rfl, hS10, hF10⟩; have hf10 := hgi'.out w10 ((FrZ.of0 (Fr.refl _ _).drew).trans hF10); have y0 := hcx'.out w10 hf10 0 _ rfl; have y1 := hcx'.out w10 hf10 1 _ rfl; rw [Nat.add_zero] at y0; have ly := lt_of_cell y0; have hc22 := hK2'.out w10 hS10 hf10; clear hS10) | (go_at_call 21; refine hc22.mono ?_; rintro e w11 ⟨rfl, hS11, hF11⟩; have hf11 := hf10.trans hF11; have v0 := hcx'.out w11 hf11 0 _ rfl; have v1 := hcx'.out w11 hf11 1 _ rfl; rw [Nat.add_zero] at v0; have lv := lt_of_cell v0))
                  go_wp2
                  go_roundg (D.length - (i + 1))
                  case rel => exact ⟨i + 1, P2, by omega, rfl, by go_num, hS11, hf11, hc2'.out⟩
                  case measure => rw [hgk3'.out]; omega
                · have he : i = D.length := by omega
                  subst he
                  have hLe : Left P' r1 r2 [] := by rw [List.drop_length] at hLi; exact hLi
                  have hdn := left_end hLe
                  obtain ⟨hd1, hd2⟩ := drop_clean hdn
                  have hDrop2 := sdrop hSi (by omega) (Nat.le_refl _) (fun z hz => by simp at hz; subst hz; omega) r1 r2
                  rw [hd1] at hDrop2
                  have hcb : ∀ X : World, FrZ w2.heap.size [gD] w8 X → X.cell? ⟨w.heap.size, 0, none⟩ = some (.int .i64 r1) ∧ X.cell? ⟨w.heap.size, 1, none⟩ = some (.int .i64 r2) := fun X hX => by
                    rw [hX.cell (k := w.heap.size) (.inr hzw) lp, hX.cell (k := w.heap.size) (.inr hzw) lp]
                    exact ⟨p0, p1⟩
                  obtain ⟨b0, b1⟩ := hcb wr hFi
                  have lb := lt_of_cell b0
                  have hcb' := Lib.hid hcb; have hd2' := Lib.hid hd2; have hFi' := Lib.hid hFi
                  clear hcb hd2 hdn hLe hLi hSi hd1 hFi p0 p1 lp
                  go_wp2_with (first | (go_at_call 22; refine hDrop2.mono ?_; rintro e w10 ⟨rfl, hS10, hF10⟩; have hf10 := hFi'.out.trans hF10; have e0 := (hcb'.out w10 hf10).1; have e1 := (hcb'.out w10 hf10).2; have le := lt_of_cell e0; have hDi := sdirty hS10 r1 r2; rw [hd2'.out] at hDi; clear hDrop2 b0 b1 lb hS10) | (go_at_call 23; refine hDi.mono ?_; rintro e w11 ⟨v, rfl, hf11, hs11⟩; obtain ⟨a7, cap7, rfl, _, _, _⟩ := hs11.at encPg_len; clear hs11 hDi))
                  go_ret
                  exact ⟨rfl, hfw2.trans (((hf10.trans (FrZ.of0 hf11))).fr hG8'.out)⟩
          · obtain ⟨g5, off5, rfl, hg5, hcA⟩ := hAc'.out (by rw [hA1]; simp)
            have x3c : w7.cell? ⟨g5, off5 + 3, none⟩ = some (.int .i64 x.2.2.2) := by
              rw [hF67.cell (p := ⟨g5, off5 + 3, none⟩) hg5 (by simp)]
              exact hcA 0 x 3 _ (by rw [hA1]; rfl) rfl
            have x3l : ∀ p : Later w7, p.world.cell? ⟨g5, off5 + 3, none⟩ = some (.int .i64 x.2.2.2) := fun p => p.cell x3c
            have hAl1 : (0 : Int) < (A.length : Int) := by rw [hA1]; simp only [List.length_cons]; omega
            have hAl3 : 0 < A.length := by omega
            have hAl2 : ((A.length : Int) == 0) = false := by rw [beq_eq_false_iff_ne]; omega
            obtain ⟨x4, hx4⟩ : ∃ x4, x4 = x.2.2.2 := ⟨_, rfl⟩
            rw [ho, ← hx4] at hcold'
            simp only [← hx4] at x3l
            have hAl4 : A.length ≠ 0 := by omega
            have hAl5 : A ≠ [] := by rintro rfl; simp at hAl3
            clear hA1 ho hx4 hcA x3c
            go_wp2
            refine wp_region_later (by kernel_rfl) (by kernel_rfl) ?_
            repeat (go_big_quiet_step ((go_at_call 16; refine Calls.later_of0 (hcold'.out _))))
            refine wpQuiet_nil ?_
            intro w8 hw'
            have hf8 : Fr [] w7 w8 := by
              obtain ⟨p, rfl⟩ := hw'
              exact p.fr
            clear hw'
            have hS8 : Solo w8 w2.heap.size wo.heap.size [gD] cb bm rg m P := hS7'.out.fr0 hf8
            have hG8 : Fr [] w2 w8 := hleft'.out w8 hf8
            have hbo := hf8.keep hb7'.out (by simp)
            have p0 := (show w8.cell? ⟨w.heap.size, 0, none⟩ = some (.int .i64 r1) from cell_at hbo)
            have p1 := (show w8.cell? ⟨w.heap.size, 1, none⟩ = some (.int .i64 r2) from cell_at hbo)
            have lp := lt_of_cell p0
            have hz8 : wo.heap.size ≤ w8.heap.size := by
              have := hF67.size
              have := hf8.size
              omega
            have hgD8 : gD < w8.heap.size := by
              have := hF67.size
              have := hf8.size
              omega
            have hDrop := sdrop hS8 hzr hz8 (fun z hz => by simp at hz; subst hz; exact hgD8) r1 r2
            have hDc8 : ∀ i x j u, D[i]? = some x → (encPg x)[j]? = some u → w8.cell? ⟨gD, offD + (i * 4 + j), none⟩ = some u := fun i x j u hi hj => by
              rw [hf8.cell (p := ⟨gD, _, none⟩) (Nat.lt_of_lt_of_le hgl hF67.size) (by simp), hF67.cell (p := ⟨gD, _, none⟩) hgl (by simp)]
              exact hDc'.out i x j u hi hj
            have hDc8' := Lib.hid hDc8; have hbo' := Lib.hid hbo; have hG8' := Lib.hid hG8
            have hzr' : w2.heap.size ≤ w8.heap.size := by omega
            clear hDc8 hbo hS8 hG8
            obtain ⟨P1, hP1⟩ : ∃ P1, P1 = (dropP P r1 r2).2 := ⟨_, rfl⟩
            rw [← hP1] at hDrop
            rcases hdf'.out with hd | hd
            · obtain ⟨d1, d2, d3⟩ := hd
              have hL1 : Left P1 r1 r2 D := by rw [hP1, d2]; exact hL0'.out
              rw [d1] at hDrop
              have hD3 : D ≠ [] := by first | exact d3 | (rw [hDeq'.out]; exact d3)
              have hDl0 : 0 < D.length := List.length_pos_iff.2 hD3
              have hDl1 : (0 : Int) < (D.length : Int) := by omega
              have hL1' := Lib.hid hL1; have hP1' := Lib.hid hP1
              clear d1 d2 d3 hD3 hL1 hP1
              go_wp2_with (go_at_call 22; refine hDrop.mono ?_; rintro e w9 ⟨rfl, hS9, hF9⟩)
              clear hDrop
              have hS9' := Lib.hid hS9; have hF9' := Lib.hid hF9
              have hz9 := hF9.size
              clear hS9 hF9
              go_loopg [16] D.length (fun gk iv wi => ∃ (i : Nat) (P' : List Pg), i ≤ D.length ∧ gk = D.length - i ∧ iv = .int .i64 i ∧ Solo wi w2.heap.size wi.heap.size [gD] cb bm rg m P' ∧ FrZ w2.heap.size [gD] w8 wi ∧ Left P' r1 r2 (D.drop i))
              case atStart => exact ⟨0, P1, Nat.zero_le _, rfl, rfl, hS9'.out, hF9'.out, hL1'.out⟩
              case round =>
                obtain ⟨i, P', hi, hgk3, rfl, hSi, hFi, hLi⟩ := hrel
                have hgk3' := Lib.hid hgk3; clear hgk3
                have hzi := hFi.size
                by_cases hit : i < D.length
                · obtain ⟨x, hx⟩ : ∃ x, D[i]? = some x := ⟨_, List.getElem?_eq_getElem hit⟩
                  have hD0 : D ≠ [] := by rintro rfl; simp at hit
                  have ha6e := ha6'.out hD0
                  subst ha6e
                  have hxi : D.drop i = x :: D.drop (i + 1) := by
                    obtain ⟨h1, rfl⟩ := List.getElem?_eq_some_iff.1 hx
                    exact (List.getElem_cons_drop (h := h1)).symm
                  have hndD : ((x :: D.drop (i + 1)).map (·.1)).Nodup := by
                    rw [← hxi]
                    exact (hDnd'.out).sublist ((List.drop_sublist i D).map _)
                  have hcl := clean_left hSi.nodup hndD (by rw [← hxi]; exact hLi)
                  have hgi : ∀ X : World, FrZ w2.heap.size [gD] wr X → FrZ w2.heap.size [gD] w8 X := fun X hX => hFi.trans hX
                  have hcx : ∀ X : World, FrZ w2.heap.size [gD] w8 X → ∀ j u, (encPg x)[j]? = some u → X.cell? ⟨gD, offD + i * 4 + j, none⟩ = some u := fun X hX j u hj => by
                    rw [hX.cell (k := gD) (.inl (by simp)) hgD8, Nat.add_assoc]
                    exact hDc8'.out i x j u hx hj
                  have hcx0 := hcx wr hFi
                  have z0 := hcx0 0 _ rfl
                  have z1 := hcx0 1 _ rfl
                  rw [Nat.add_zero] at z0
                  have lz := lt_of_cell z0
                  have hdn : D.drop (i + 1) = (D.drop i).tail := by rw [hxi]; rfl
                  obtain ⟨P2, hP2⟩ : ∃ P2, P2 = (cleanP P' x.1 x.2.1).2 := ⟨_, rfl⟩
                  rw [← hP2] at hcl
                  obtain ⟨hc1, hc2, hc3, hc4⟩ := hcl
                  have hK1 : ∀ X : World, Fr [] wr X → Calls Try.prog 21 #[.pointer (some ⟨cb, 0, none⟩), .int .i64 x.1, .int .i64 x.2.1] X (SoloOut w2.heap.size [gD] cb bm rg m P2 (.int .i64 0) X) := fun X hX => by
                    have := sclean (hSi.fr0 hX) (by omega) hX.size (fun z hz => by simp at hz; subst hz; have := hX.size; omega) x.1 x.2.1
                    rw [hc1, ← hP2] at this
                    exact this
                  have hK2 : ∀ X : World, Solo X w2.heap.size X.heap.size [gD] cb bm rg m P2 → FrZ w2.heap.size [gD] w8 X → Calls Try.prog 21 #[.pointer (some ⟨cb, 0, none⟩), .int .i64 x.1, .int .i64 x.2.1] X (SoloOut w2.heap.size [gD] cb bm rg m P2 (.int .i64 3) X) := fun X hX hF => by
                    have := sclean hX (by have := hF.size; omega) (Nat.le_refl _) (fun z hz => by simp at hz; subst hz; have := hF.size; omega) x.1 x.2.1
                    rw [hc4] at this
                    exact this
                  have hK1' := Lib.hid hK1; have hK2' := Lib.hid hK2; have hcx' := Lib.hid hcx; have hgi' := Lib.hid hgi; have hc2' := Lib.hid hc2
                  obtain ⟨x1, x2, x3, x4⟩ := x
                  dsimp only at hK1' hK2' z0 z1
                  clear hx hxi hndD hcx0 hdn hc1 hc2 hc3 hc4 hP2 hD0 hK1 hK2 hcx hgi hSi hLi hFi
                  go_wp2
                  go_region_held3 (fun w' => w'.cell? ⟨gD, offD + i * 4, none⟩ = some (.int .i64 x1) ∧ w'.cell? ⟨gD, offD + i * 4 + 1, none⟩ = some (.int .i64 x2)) (first | go_keep | exact ⟨y0, y1⟩ | exact ⟨v0, v1⟩)
                    (first | (go_at_call 21; refine (hK1'.out _ (Fr.refl _ _).drew).mono ?_; rintro e w10 ⟨rfl, hS10, hF10⟩; have hf10 := hgi'.out w10 ((FrZ.of0 (Fr.refl _ _).drew).trans hF10); have y0 := hcx'.out w10 hf10 0 _ rfl; have y1 := hcx'.out w10 hf10 1 _ rfl; rw [Nat.add_zero] at y0; have ly := lt_of_cell y0; have hc22 := hK2'.out w10 hS10 hf10; clear hS10) | (go_at_call 21; refine hc22.mono ?_; rintro e w11 ⟨rfl, hS11, hF11⟩; have hf11 := hf10.trans hF11; have v0 := hcx'.out w11 hf11 0 _ rfl; have v1 := hcx'.out w11 hf11 1 _ rfl; rw [Nat.add_zero] at v0; have lv := lt_of_cell v0))
                  go_wp2
                  go_roundg (D.length - (i + 1))
                  case rel => exact ⟨i + 1, P2, by omega, rfl, by go_num, hS11, hf11, hc2'.out⟩
                  case measure => rw [hgk3'.out]; omega
                · have he : i = D.length := by omega
                  subst he
                  have hLe : Left P' r1 r2 [] := by rw [List.drop_length] at hLi; exact hLi
                  have hdn := left_end hLe
                  obtain ⟨hd1, hd2⟩ := drop_clean hdn
                  have hDrop2 := sdrop hSi (by omega) (Nat.le_refl _) (fun z hz => by simp at hz; subst hz; omega) r1 r2
                  rw [hd1] at hDrop2
                  have hcb : ∀ X : World, FrZ w2.heap.size [gD] w8 X → X.cell? ⟨w.heap.size, 0, none⟩ = some (.int .i64 r1) ∧ X.cell? ⟨w.heap.size, 1, none⟩ = some (.int .i64 r2) := fun X hX => by
                    rw [hX.cell (k := w.heap.size) (.inr hzw) lp, hX.cell (k := w.heap.size) (.inr hzw) lp]
                    exact ⟨p0, p1⟩
                  obtain ⟨b0, b1⟩ := hcb wr hFi
                  have lb := lt_of_cell b0
                  have hcb' := Lib.hid hcb; have hd2' := Lib.hid hd2; have hFi' := Lib.hid hFi
                  clear hcb hd2 hdn hLe hLi hSi hd1 hFi p0 p1 lp
                  go_wp2_with (first | (go_at_call 22; refine hDrop2.mono ?_; rintro e w10 ⟨rfl, hS10, hF10⟩; have hf10 := hFi'.out.trans hF10; have e0 := (hcb'.out w10 hf10).1; have e1 := (hcb'.out w10 hf10).2; have le := lt_of_cell e0; have hDi := sdirty hS10 r1 r2; rw [hd2'.out] at hDi; clear hDrop2 b0 b1 lb hS10) | (go_at_call 23; refine hDi.mono ?_; rintro e w11 ⟨v, rfl, hf11, hs11⟩; obtain ⟨a7, cap7, rfl, _, _, _⟩ := hs11.at encPg_len; clear hs11 hDi))
                  go_ret
                  exact ⟨rfl, hfw2.trans (((hf10.trans (FrZ.of0 hf11))).fr hG8'.out)⟩
            · obtain ⟨d1, d2, d3⟩ := hd
              have hD3 : D = [] := by first | exact d2 | (rw [hDeq'.out]; exact d2)
              have hL1 : Left P1 r1 r2 D := by rw [hP1, hD3]; exact d3
              rw [d1] at hDrop
              have hDlz : D.length = 0 := by rw [hD3]; rfl
              have hDl0 : ¬ 0 < D.length := by omega
              have hDl1 : ¬ (0 : Int) < (D.length : Int) := by omega
              have hDl2 : decide ((0 : Int) < (D.length : Int)) = false := by simp; omega
              have hDl3 : decide (0 < D.length) = false := by simp; omega
              have hL1' := Lib.hid hL1; have hP1' := Lib.hid hP1
              clear d1 d2 d3 hD3 hL1 hP1 hDlz
              go_wp2_with (go_at_call 22; refine hDrop.mono ?_; rintro e w9 ⟨rfl, hS9, hF9⟩)
              clear hDrop
              have hS9' := Lib.hid hS9; have hF9' := Lib.hid hF9
              have hz9 := hF9.size
              clear hS9 hF9
              go_loopg [16] D.length (fun gk iv wi => ∃ (i : Nat) (P' : List Pg), i ≤ D.length ∧ gk = D.length - i ∧ iv = .int .i64 i ∧ Solo wi w2.heap.size wi.heap.size [gD] cb bm rg m P' ∧ FrZ w2.heap.size [gD] w8 wi ∧ Left P' r1 r2 (D.drop i))
              case atStart => exact ⟨0, P1, Nat.zero_le _, rfl, rfl, hS9'.out, hF9'.out, hL1'.out⟩
              case round =>
                obtain ⟨i, P', hi, hgk3, rfl, hSi, hFi, hLi⟩ := hrel
                have hgk3' := Lib.hid hgk3; clear hgk3
                have hzi := hFi.size
                by_cases hit : i < D.length
                · obtain ⟨x, hx⟩ : ∃ x, D[i]? = some x := ⟨_, List.getElem?_eq_getElem hit⟩
                  have hD0 : D ≠ [] := by rintro rfl; simp at hit
                  have ha6e := ha6'.out hD0
                  subst ha6e
                  have hxi : D.drop i = x :: D.drop (i + 1) := by
                    obtain ⟨h1, rfl⟩ := List.getElem?_eq_some_iff.1 hx
                    exact (List.getElem_cons_drop (h := h1)).symm
                  have hndD : ((x :: D.drop (i + 1)).map (·.1)).Nodup := by
                    rw [← hxi]
                    exact (hDnd'.out).sublist ((List.drop_sublist i D).map _)
                  have hcl := clean_left hSi.nodup hndD (by rw [← hxi]; exact hLi)
                  have hgi : ∀ X : World, FrZ w2.heap.size [gD] wr X → FrZ w2.heap.size [gD] w8 X := fun X hX => hFi.trans hX
                  have hcx : ∀ X : World, FrZ w2.heap.size [gD] w8 X → ∀ j u, (encPg x)[j]? = some u → X.cell? ⟨gD, offD + i * 4 + j, none⟩ = some u := fun X hX j u hj => by
                    rw [hX.cell (k := gD) (.inl (by simp)) hgD8, Nat.add_assoc]
                    exact hDc8'.out i x j u hx hj
                  have hcx0 := hcx wr hFi
                  have z0 := hcx0 0 _ rfl
                  have z1 := hcx0 1 _ rfl
                  rw [Nat.add_zero] at z0
                  have lz := lt_of_cell z0
                  have hdn : D.drop (i + 1) = (D.drop i).tail := by rw [hxi]; rfl
                  obtain ⟨P2, hP2⟩ : ∃ P2, P2 = (cleanP P' x.1 x.2.1).2 := ⟨_, rfl⟩
                  rw [← hP2] at hcl
                  obtain ⟨hc1, hc2, hc3, hc4⟩ := hcl
                  have hK1 : ∀ X : World, Fr [] wr X → Calls Try.prog 21 #[.pointer (some ⟨cb, 0, none⟩), .int .i64 x.1, .int .i64 x.2.1] X (SoloOut w2.heap.size [gD] cb bm rg m P2 (.int .i64 0) X) := fun X hX => by
                    have := sclean (hSi.fr0 hX) (by omega) hX.size (fun z hz => by simp at hz; subst hz; have := hX.size; omega) x.1 x.2.1
                    rw [hc1, ← hP2] at this
                    exact this
                  have hK2 : ∀ X : World, Solo X w2.heap.size X.heap.size [gD] cb bm rg m P2 → FrZ w2.heap.size [gD] w8 X → Calls Try.prog 21 #[.pointer (some ⟨cb, 0, none⟩), .int .i64 x.1, .int .i64 x.2.1] X (SoloOut w2.heap.size [gD] cb bm rg m P2 (.int .i64 3) X) := fun X hX hF => by
                    have := sclean hX (by have := hF.size; omega) (Nat.le_refl _) (fun z hz => by simp at hz; subst hz; have := hF.size; omega) x.1 x.2.1
                    rw [hc4] at this
                    exact this
                  have hK1' := Lib.hid hK1; have hK2' := Lib.hid hK2; have hcx' := Lib.hid hcx; have hgi' := Lib.hid hgi; have hc2' := Lib.hid hc2
                  obtain ⟨x1, x2, x3, x4⟩ := x
                  dsimp only at hK1' hK2' z0 z1
                  clear hx hxi hndD hcx0 hdn hc1 hc2 hc3 hc4 hP2 hD0 hK1 hK2 hcx hgi hSi hLi hFi
                  go_wp2
                  go_region_held3 (fun w' => w'.cell? ⟨gD, offD + i * 4, none⟩ = some (.int .i64 x1) ∧ w'.cell? ⟨gD, offD + i * 4 + 1, none⟩ = some (.int .i64 x2)) (first | go_keep | exact ⟨y0, y1⟩ | exact ⟨v0, v1⟩)
                    (first | (go_at_call 21; refine (hK1'.out _ (Fr.refl _ _).drew).mono ?_; rintro e w10 ⟨rfl, hS10, hF10⟩; have hf10 := hgi'.out w10 ((FrZ.of0 (Fr.refl _ _).drew).trans hF10); have y0 := hcx'.out w10 hf10 0 _ rfl; have y1 := hcx'.out w10 hf10 1 _ rfl; rw [Nat.add_zero] at y0; have ly := lt_of_cell y0; have hc22 := hK2'.out w10 hS10 hf10; clear hS10) | (go_at_call 21; refine hc22.mono ?_; rintro e w11 ⟨rfl, hS11, hF11⟩; have hf11 := hf10.trans hF11; have v0 := hcx'.out w11 hf11 0 _ rfl; have v1 := hcx'.out w11 hf11 1 _ rfl; rw [Nat.add_zero] at v0; have lv := lt_of_cell v0))
                  go_wp2
                  go_roundg (D.length - (i + 1))
                  case rel => exact ⟨i + 1, P2, by omega, rfl, by go_num, hS11, hf11, hc2'.out⟩
                  case measure => rw [hgk3'.out]; omega
                · have he : i = D.length := by omega
                  subst he
                  have hLe : Left P' r1 r2 [] := by rw [List.drop_length] at hLi; exact hLi
                  have hdn := left_end hLe
                  obtain ⟨hd1, hd2⟩ := drop_clean hdn
                  have hDrop2 := sdrop hSi (by omega) (Nat.le_refl _) (fun z hz => by simp at hz; subst hz; omega) r1 r2
                  rw [hd1] at hDrop2
                  have hcb : ∀ X : World, FrZ w2.heap.size [gD] w8 X → X.cell? ⟨w.heap.size, 0, none⟩ = some (.int .i64 r1) ∧ X.cell? ⟨w.heap.size, 1, none⟩ = some (.int .i64 r2) := fun X hX => by
                    rw [hX.cell (k := w.heap.size) (.inr hzw) lp, hX.cell (k := w.heap.size) (.inr hzw) lp]
                    exact ⟨p0, p1⟩
                  obtain ⟨b0, b1⟩ := hcb wr hFi
                  have lb := lt_of_cell b0
                  have hcb' := Lib.hid hcb; have hd2' := Lib.hid hd2; have hFi' := Lib.hid hFi
                  clear hcb hd2 hdn hLe hLi hSi hd1 hFi p0 p1 lp
                  go_wp2_with (first | (go_at_call 22; refine hDrop2.mono ?_; rintro e w10 ⟨rfl, hS10, hF10⟩; have hf10 := hFi'.out.trans hF10; have e0 := (hcb'.out w10 hf10).1; have e1 := (hcb'.out w10 hf10).2; have le := lt_of_cell e0; have hDi := sdirty hS10 r1 r2; rw [hd2'.out] at hDi; clear hDrop2 b0 b1 lb hS10) | (go_at_call 23; refine hDi.mono ?_; rintro e w11 ⟨v, rfl, hf11, hs11⟩; obtain ⟨a7, cap7, rfl, _, _, _⟩ := hs11.at encPg_len; clear hs11 hDi))
                  go_ret
                  exact ⟨rfl, hfw2.trans (((hf10.trans (FrZ.of0 hf11))).fr hG8'.out)⟩
end Go.Proofs.Ytafeemlojlngfaa
