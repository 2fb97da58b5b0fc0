/- The law PageKeeps, walked. -/
import Derived.Test.YtafeemlojlngfaaQkp
import Derived.Test.YtafeemlojlngfaaLater
import Derived.Deep.RegionHeld3
import Derived.Deep.DeepCutAuto
import Derived.Deep.CutBlock
namespace Go.Proofs.Ytafeemlojlngfaa
open Go.RowKit Go.Maps Go.Lib Go.Sort
theorem Solo.weak {w : World} {B M : Nat} {Z Z' : List Nat} {cb bm rg n : Nat} {P : List Pg} (h : Solo w B M Z cb bm rg n P) (hz : ∀ z ∈ Z', z ∈ Z) : Solo w B M Z' cb bm rg n P := by
  obtain ⟨Q, h1, h2, h4⟩ := h
  exact ⟨Q, h1, h2, fun b hb => ⟨(h4 b hb).1, (h4 b hb).2.1, fun hm => (h4 b hb).2.2 (hz b hm)⟩⟩
theorem now_parts {w : World} {base : Nat} {v : Value} {N : List Pg} (h : w.ownsRow base 31 4 v N.length (N.flatMap encPg)) (hb : base < w.heap.size) :
    ∃ a cap g off, v = .slice a N.length cap ∧ (N ≠ [] → a = some ⟨g, off, none⟩) ∧ base ≤ g ∧ g < w.heap.size ∧ ∀ i x j u, N[i]? = some x → (encPg x)[j]? = some u → w.cell? ⟨g, off + (i * 4 + j), none⟩ = some u := by
  obtain ⟨a, cap, rfl, _, _, hat⟩ := (SliceIs.of_owns h rfl).at encPg_len
  by_cases hN : N = []
  · refine ⟨a, cap, base, 0, rfl, fun hh => absurd hN hh, Nat.le_refl _, hb, fun i x j u hi => by rw [hN] at hi; simp at hi⟩
  · obtain ⟨g, off, h1, h2, h3, h4⟩ := hat hN
    exact ⟨a, cap, g, off, rfl, fun _ => h1, h2, h3, h4⟩
theorem InS.set {n : Nat} {P : List Pg} {p : Pg} (h : InS P) : InS (setP n P p).2 := h.put
theorem InS.fill {n : Nat} {P : List Pg} {p : Pg} (h : InS P) : InS (fillP n P p).2 := h.put
theorem pg_ne {x1 x2 : Int} {x3 : ByteArray} {x4 : Int} {y1 y2 : Int} {y3 : ByteArray} {y4 : Int} (h : ((x1, x2, x3, x4) : Pg) ≠ (y1, y2, y3, y4)) : x1 ≠ y1 ∨ x1 = y1 ∧ (x2 ≠ y2 ∨ x2 = y2 ∧ (x3 ≠ y3 ∨ x3 = y3 ∧ x4 ≠ y4)) := by
  by_cases e1 : x1 = y1
  · by_cases e2 : x2 = y2
    · by_cases e3 : x3 = y3
      · exact .inr ⟨e1, .inr ⟨e2, .inr ⟨e3, fun e4 => h (by rw [e1, e2, e3, e4])⟩⟩⟩
      · exact .inr ⟨e1, .inr ⟨e2, .inl e3⟩⟩
    · exact .inr ⟨e1, .inl e2⟩
  · exact .inl e1
set_option maxRecDepth 100000 in
set_option maxHeartbeats 16000000 in
theorem keeps_law {B : Nat → Prop} (n : Int) (v : Value) (S : List St) (w : World) (hn0 : 0 ≤ n) (hn1 : n ≤ 255) (h : SliceIs w B encSt v S) :
    Calls Try.prog 4 #[.int .u8 n, v] w fun e w' => e = .returned (.bool true) ∧ Fr [] w w' := by
  have hhv := heavy_any v S w h
  have hsh := shown_any
  obtain ⟨a, cap, rfl, hc1, hc2, hat⟩ := h.at encSt_len
  have hat' := Lib.hid hat
  clear hat h
  have hsh1 := hsh w
  by_cases hv : heavyS S = true
  · rw [hv] at hhv
    clear hv
    go_enter Try.func4, Try.ntmps4
    go_wp2_with (first | (go_at_call 8; refine hhv.mono ?_; rintro e w1 ⟨rfl, hw1⟩; have hw2 := hw1.symm; subst hw2) | (go_at_call 9; refine hsh1.mono ?_; rintro e w2 ⟨rfl, hf2⟩))
    go_ret
    exact ⟨rfl, hf2⟩
  rw [Bool.not_eq_true] at hv
  have hlen : S.length ≤ 150 := by
    unfold heavyS at hv
    simp only [Bool.or_eq_false_iff, decide_eq_false_iff_not] at hv
    omega
  rw [hv] at hhv
  clear hv
  obtain ⟨m, hm⟩ : ∃ m, m = (max 1 (min (1 + n % 8) 64)).toNat := ⟨_, rfl⟩
  have hmm : (m : Int) = 1 + n % 8 := by omega
  have hmm' := Lib.hid hmm
  have hm8 : m ≤ 8 := by omega
  have hnew : ∀ X, _ := fun X => new_any (1 + n % 8) X
  rw [← hm] at hnew
  rw [← hmm] at hnew
  have hnew' := Lib.hid hnew
  clear hm hnew hsh hmm
  go_enter Try.func4, Try.ntmps4
  go_wp2_with (first | (go_at_call 8; refine hhv.mono ?_; rintro e w1 ⟨rfl, hw1⟩; have hw2 := hw1.symm; subst hw2) | (go_at_call 9; refine hsh1.mono ?_; rintro e w2 ⟨rfl, hf2⟩; have hn2 := hnew'.out w2; rw [hmm'.out] at hn2) | (go_at_call 10; refine hn2.mono ?_; rintro e w3 ⟨cb, bm, rg, rfl, hf3, l1, l2, l3, hC⟩; unfold ptr))
  have hz3 := hf3.size
  have hst := Solo.start l1 l2 l3 hC
  have hown0 : True := trivial
  obtain ⟨W3, hW3⟩ : ∃ W, W = w3.alloc (.cells #[] 31) := ⟨_, rfl⟩
  rw [← hW3]
  have hf34 : Fr [] w3 W3 := by rw [hW3]; exact (Fr.refl _ _).alloc _
  have hzW : W3.heap.size = w3.heap.size + 1 := by rw [hW3]; simp
  have hst3 : Solo W3 w2.heap.size W3.heap.size [w3.heap.size] cb bm rg m [] := ((hst.fr0 hf34).guard (.inl (Nat.le_refl _))).grow (by omega)
  have hst' := Lib.hid hst3
  have hF3 : Fr [] w2 W3 := hf3.trans hf34
  have hF3' := Lib.hid hF3
  obtain ⟨b0, hb0⟩ : ∃ b0, b0 = w3.heap.size := ⟨_, rfl⟩
  rw [← hb0] at hzW ⊢
  have hb0' := Lib.hid hb0
  clear hn2 hst hC hsh1 hhv hW3 hf34 hst3 hown0 hb0 hF3
  go_loopg [7, 8] S.length (fun gk nv iv wr => ∃ (i : Nat) (P N : List Pg) (a7 : Option Addr) (cap7 g off : Nat), i ≤ S.length ∧ gk = S.length - i ∧ iv = .int .i64 i ∧ nv = .slice a7 N.length cap7 ∧ (N ≠ [] → a7 = some ⟨g, off, none⟩) ∧ g < wr.heap.size ∧ (∀ i x j u, N[i]? = some x → (encPg x)[j]? = some u → wr.cell? ⟨g, off + (i * 4 + j), none⟩ = some u) ∧ Solo wr w2.heap.size wr.heap.size [g] cb bm rg m P ∧ InS P ∧ N.Perm (dz P) ∧ Fr [] w2 wr)
  case atStart => exact ⟨0, [], [], some ⟨b0, 0, none⟩, 0, b0, 0, Nat.zero_le _, rfl, rfl, rfl, fun _ => rfl, by omega, by simp, by rw [hb0'.out]; exact hst'.out, fun p hp => by simp at hp, List.Perm.refl _, hF3'.out⟩
  case round =>
    obtain ⟨i, P, N, a7, cap7, g, off, hi, hgk, rfl, rfl, ha7, hg7, hcN, hSo, hInS, hNP, hfr⟩ := hrel
    have hgk' := Lib.hid hgk; clear hgk
    have hzr := hfr.size
    have hnd := hSo.nodup
    have hfew := hSo.few
    have hNl : N.length ≤ 8 := by rw [hNP.length_eq]; have := dz_le P; omega
    by_cases hlt : i < S.length
    · obtain ⟨gS, offS, rfl, _, hg2, hcells⟩ := hat'.out (by rintro rfl; simp at hlt)
      obtain ⟨x, hx⟩ : ∃ x, S[i]? = some x := ⟨_, List.getElem?_eq_getElem hlt⟩
      have hcr : ∀ j u, (encSt x)[j]? = some u → wr.cell? ⟨gS, offS + i * 7 + j, none⟩ = some u := fun j u hj => by rw [(hf2.trans hfr).cell (p := ⟨gS, _, none⟩) hg2 (by simp), Nat.add_assoc]; exact hcells i x j u hx hj
      have k0 := hcr 0 _ rfl
      have k1 := hcr 1 _ rfl
      have k2 := hcr 2 _ rfl
      have k3 := hcr 3 _ rfl
      have k4 := hcr 4 _ rfl
      have k5 := hcr 5 _ rfl
      have k6 := hcr 6 _ rfl
      rw [Nat.add_zero] at k0
      obtain ⟨x0, ⟨x1, x2, x3, x4⟩, x5, x6⟩ := x
      dsimp only at k0 k1 k2 k3 k4 k5 k6
      have hNP' := Lib.hid hNP; have hInS' := Lib.hid hInS; have hSo' := Lib.hid hSo; have hcN' := Lib.hid hcN; have ha7' := Lib.hid ha7; have hnd' := Lib.hid hnd
      clear hcells hx hcr hNP hInS hSo hcN ha7 hnd
      go_upto_block 2 with fail
      obtain ⟨W9, hW9⟩ : ∃ W, W = wr.alloc (.cells #[.int .i64 x0, .int .i64 x1, .int .i64 x2, .string x3, .int .i64 x4, .int .i64 x5, .int .i64 x6] 35) := ⟨_, rfl⟩
      have hbx : W9.heap[wr.heap.size]? = some (.cells #[.int .i64 x0, .int .i64 x1, .int .i64 x2, .string x3, .int .i64 x4, .int .i64 x5, .int .i64 x6] 35 (0, 0)) := by rw [hW9]; exact heap_alloc_new wr _
      have hF9 : Fr [] wr W9 := by rw [hW9]; exact (Fr.refl _ _).alloc _
      have hz9 : W9.heap.size = wr.heap.size + 1 := by rw [hW9]; simp
      have c0 := (show W9.cell? ⟨wr.heap.size, 0, none⟩ = some (.int .i64 x0) from cell_at hbx)
      have c1 := (show W9.cell? ⟨wr.heap.size, 1, none⟩ = some (.int .i64 x1) from cell_at hbx)
      have c2 := (show W9.cell? ⟨wr.heap.size, 2, none⟩ = some (.int .i64 x2) from cell_at hbx)
      have c3 := (show W9.cell? ⟨wr.heap.size, 3, none⟩ = some (.string x3) from cell_at hbx)
      have c4 := (show W9.cell? ⟨wr.heap.size, 4, none⟩ = some (.int .i64 x4) from cell_at hbx)
      have c5 := (show W9.cell? ⟨wr.heap.size, 5, none⟩ = some (.int .i64 x5) from cell_at hbx)
      have c6 := (show W9.cell? ⟨wr.heap.size, 6, none⟩ = some (.int .i64 x6) from cell_at hbx)
      rw [← hW9]
      have hSo9 : Solo W9 w2.heap.size W9.heap.size [wr.heap.size, g] cb bm rg m P := ((hSo'.out.fr0 hF9).guard (.inl (Nat.le_refl _))).grow (by omega)
      have hZ9 : ∀ z ∈ [wr.heap.size, g], z < W9.heap.size := fun z hz => by simp at hz; omega
      have hle9 : w2.heap.size ≤ W9.heap.size := by omega
      have hfr9 : Fr [] w2 W9 := hfr.trans hF9
      have hcX : ∀ X : World, FrZ w2.heap.size [wr.heap.size, g] W9 X → ∀ i x j u, N[i]? = some x → (encPg x)[j]? = some u → X.cell? ⟨g, off + (i * 4 + j), none⟩ = some u := fun X hX i x j u hi hj => by
        rw [hX.cell (k := g) (.inl (by simp)) (by omega), hF9.cell (p := ⟨g, _, none⟩) hg7 (by simp)]
        exact hcN'.out i x j u hi hj
      have hSo9' := Lib.hid hSo9; have hcX' := Lib.hid hcX; have hF9' := Lib.hid hF9
      clear k0 k1 k2 k3 k4 k5 k6 hSo9 hcX hF9 hbx hW9
      go_cut [7] (fun s7 wx => ∃ (P N : List Pg) (a7 : Option Addr) (cap7 g off : Nat), s7 = .slice a7 N.length cap7 ∧ (N ≠ [] → a7 = some ⟨g, off, none⟩) ∧ g < wx.heap.size ∧ (∀ i x j u, N[i]? = some x → (encPg x)[j]? = some u → wx.cell? ⟨g, off + (i * 4 + j), none⟩ = some u) ∧ Solo wx w2.heap.size wx.heap.size [g] cb bm rg m P ∧ InS P ∧ N.Perm (dz P) ∧ Fr [] w2 wx)
      case first =>
        by_cases e0 : x0 = 0
        · subst e0
          have hc := sget hSo9'.out hle9 (Nat.le_refl _) hZ9 x1
          go_wp2_with (first | (go_at_call 18; refine hc.mono ?_; rintro e w5 ⟨rfl, hS5, hF5⟩))
          go_meet
          exact ⟨_, N, a7, cap7, g, off, rfl, ha7'.out, by have := hF5.size; omega, hcX'.out _ hF5, hS5.weak (by simp), hInS'.out.get _, hNP'.out.trans (dz_get hnd'.out _), hF5.fr hfr9⟩
        have e0b : (x0 == 0) = false := by simpa using e0
        clear e0
        by_cases e1 : x0 = 1
        · subst e1
          have hc := sfill hSo9'.out hle9 (Nat.le_refl _) hZ9 (x1, x2, x3, x4)
          unfold aggPg at hc
          dsimp only at hc
          go_wp2_with (first | (go_at_call 19; refine hc.mono ?_; rintro e w5 ⟨rfl, hS5, hF5⟩))
          go_meet
          exact ⟨_, N, a7, cap7, g, off, rfl, ha7'.out, by have := hF5.size; omega, hcX'.out _ hF5, hS5.weak (by simp), hInS'.out.fill, by rw [dz_fill hnd'.out]; exact hNP'.out, hF5.fr hfr9⟩
        have e1b : (x0 == 1) = false := by simpa using e1
        clear e1
        by_cases e2 : x0 = 2
        · subst e2
          have hc := sset hSo9'.out hle9 (Nat.le_refl _) hZ9 (x1, x2, x3, x4)
          have hdz := dz_set (n := m) (p := (x1, x2, x3, x4)) hnd'.out
          have hin2 := hInS'.out.set (n := m) (p := (x1, x2, x3, x4))
          unfold aggPg at hc
          dsimp only at hc
          obtain ⟨r, hr⟩ : ∃ r, r = setP m P (x1, x2, x3, x4) := ⟨_, rfl⟩
          rw [← hr] at hc hdz hin2
          obtain ⟨r1, P2⟩ := r
          dsimp only at hc hdz hin2
          clear hr
          rcases hdz with ⟨rfl, hdz⟩ | ⟨hne, rfl⟩
          · have hdz' := Lib.hid hdz; have hin2' := Lib.hid hin2
            clear hdz hin2
            go_wp2_with (first | (go_at_call 20; refine hc.mono ?_; rintro e w5 ⟨rfl, hS5, hF5⟩; have f1 := (show w5.cell? ⟨wr.heap.size, 1, none⟩ = some (.int .i64 x1) from by rw [hF5.cell (k := wr.heap.size) (.inl (by simp)) (by omega)]; exact c1); have f2 := (show w5.cell? ⟨wr.heap.size, 2, none⟩ = some (.int .i64 x2) from by rw [hF5.cell (k := wr.heap.size) (.inl (by simp)) (by omega)]; exact c2); have f3 := (show w5.cell? ⟨wr.heap.size, 3, none⟩ = some (.string x3) from by rw [hF5.cell (k := wr.heap.size) (.inl (by simp)) (by omega)]; exact c3); have f4 := (show w5.cell? ⟨wr.heap.size, 4, none⟩ = some (.int .i64 x4) from by rw [hF5.cell (k := wr.heap.size) (.inl (by simp)) (by omega)]; exact c4); have lf := lt_of_cell f1; have hS5' := Lib.hid hS5; clear hc hS5))
            obtain ⟨w6, hw6⟩ : ∃ w6, w6 = w5.alloc (.cells #[.int .i64 x1, .int .i64 x2, .string x3, .int .i64 x4] 31) := ⟨_, rfl⟩
            have hF56 : Fr [] w5 w6 := by rw [hw6]; exact (Fr.refl _ _).alloc _
            have hz6 : w6.heap.size = w5.heap.size + 1 := by rw [hw6]; simp
            have hown0 : w6.ownsRow w5.heap.size 31 4 (.slice (some ⟨w5.heap.size, 0, none⟩) 1 1) [((x1, x2, x3, x4) : Pg)].length ([((x1, x2, x3, x4) : Pg)].flatMap encPg) := by
              rw [hw6]
              have := World.ownsRow_lit (base := w5.heap.size) (e := 31) (size := 4) w5 #[.int .i64 x1, .int .i64 x2, .string x3, .int .i64 x4] 1 (Nat.le_refl _) (by unfold maxLen; omega) rfl
              simpa [encPg] using this
            rw [← hw6]
            have hz5 := hF5.size
            have hF5' := Lib.hid hF5; have hF56' := Lib.hid hF56
            have hown0' := Lib.hid hown0
            clear hw6 hF56 hF5 hown0
            obtain ⟨wo, rfl⟩ : ∃ wo : World, wo = wr := ⟨_, rfl⟩
            go_loopg [10, 11] N.length (fun gk nv iv wi => ∃ k : Nat, k ≤ N.length ∧ gk = N.length - k ∧ iv = .int .i64 k ∧ wi.ownsRow w5.heap.size 31 4 nv ([((x1, x2, x3, x4) : Pg)] ++ nwB N x1 (k)).length (([((x1, x2, x3, x4) : Pg)] ++ nwB N x1 (k)).flatMap encPg) ∧ Fr [] w5 wi ∧ w5.heap.size < wi.heap.size)
            case atStart => exact ⟨0, Nat.zero_le _, rfl, rfl, hown0'.out, hF56'.out, by omega⟩
            case round =>
              obtain ⟨k, hk, hgk2, rfl, hown, hfi, hgt⟩ := hrel
              have hgk2' := Lib.hid hgk2; clear hgk2
              have hzi := hfi.size
              have hF5i : FrZ w2.heap.size [wo.heap.size, g] W9 wr := hF5'.out.trans (FrZ.of0 hfi)
              have hF5i' := Lib.hid hF5i; have hfi' := Lib.hid hfi
              have g1 := (show wr.cell? ⟨wo.heap.size, 1, none⟩ = some (.int .i64 x1) from by rw [hF5i.cell (k := wo.heap.size) (.inl (by simp)) (by omega)]; exact c1)
              have lg := lt_of_cell g1
              clear hF5i hfi
              by_cases hlt2 : k < N.length
              · have hN0 : N ≠ [] := by rintro rfl; simp at hlt2
                have ha7e := ha7'.out hN0
                subst ha7e
                obtain ⟨y, hy⟩ : ∃ y, N[k]? = some y := ⟨_, List.getElem?_eq_getElem hlt2⟩
                have hcy : ∀ j u, (encPg y)[j]? = some u → wr.cell? ⟨g, off + k * 4 + j, none⟩ = some u := fun j u hj => by rw [Nat.add_assoc]; exact hcX'.out wr hF5i'.out k y j u hy hj
                have y0 := hcy 0 _ rfl
                have y1c := hcy 1 _ rfl
                have y2c := hcy 2 _ rfl
                have y3c := hcy 3 _ rfl
                rw [Nat.add_zero] at y0
                have ly := lt_of_cell y0
                have hst := nwB_step (b := x1) hy
                have hal : ([((x1, x2, x3, x4) : Pg)] ++ nwB N x1 (k)).length ≤ 9 := by
                  have := nwB_len N x1 k
                  simp only [List.length_append, List.length_cons, List.length_nil]; omega
                obtain ⟨y1, y2, y3, y4⟩ := y
                dsimp only at y0 y1c y2c y3c hst
                have hst' := Lib.hid hst
                clear hst hcy hy hN0
                by_cases hey : y1 = x1
                · subst hey
                  go_wp2
                  go_quiet (fail)
                  go_wp2
                  go_roundg (N.length - (k + 1))
                  case rel => exact ⟨k + 1, by omega, rfl, by go_num, by rw [hst'.out, if_pos trivial, List.append_nil]; exact owns_fr hown ((Fr.refl [] wr).drewN nq) (by simp), hfi'.out.drewN nq, hgt⟩
                  case measure => rw [hgk2'.out]; omega
                · have hey1 : (y1 != x1) = true := by simpa using hey
                  have hey2 := Lib.hid hey
                  clear hey
                  go_wp2
                  go_quiet (fail)
                  obtain ⟨wq, hwq⟩ : ∃ wq, wq = wr.drewN nq := ⟨_, rfl⟩
                  have hfq : Fr [] wr wq := by rw [hwq]; exact (Fr.refl [] wr).drewN nq
                  have z0 := (show wq.cell? ⟨g, off + k * 4, none⟩ = some (.int .i64 y1) from by rw [hfq.cell (p := ⟨g, _, none⟩) ly (by simp)]; exact y0)
                  have z1 := (show wq.cell? ⟨g, off + k * 4 + 1, none⟩ = some (.int .i64 y2) from by rw [hfq.cell (p := ⟨g, _, none⟩) ly (by simp)]; exact y1c)
                  have z2 := (show wq.cell? ⟨g, off + k * 4 + 2, none⟩ = some (.string y3) from by rw [hfq.cell (p := ⟨g, _, none⟩) ly (by simp)]; exact y2c)
                  have z3 := (show wq.cell? ⟨g, off + k * 4 + 3, none⟩ = some (.int .i64 y4) from by rw [hfq.cell (p := ⟨g, _, none⟩) ly (by simp)]; exact y3c)
                  have lz := lt_of_cell z0
                  have hownq := owns_fr hown hfq (by simp)
                  have hzq := hfq.size
                  obtain ⟨A, hA⟩ : ∃ A, A = ([((x1, x2, x3, x4) : Pg)] ++ nwB N x1 (k)) := ⟨_, rfl⟩
                  rw [← hA] at hownq hal
                  have hA' := Lib.hid hA
                  rw [← hwq]
                  have hfq' := Lib.hid hfq
                  clear y0 y1c y2c y3c ly hwq hfq hown g1 lg hA
                  go_wp2_with (first | (at_builtin; (refine wpList_push wq _ _ rfl _ _ 39 rfl w5.heap.size 31 Try.underlying39 infoPg rfl (by omega) u10 A rfl hownq (y1, y2, y3, y4) rfl encPg_len (enc1 _) rfl (by omega) (by omega) (by omega) ?_; intro v' w7 hown7 hf7)))
                  have hob := hownq.lt
                  go_roundg (N.length - (k + 1))
                  case rel => exact ⟨k + 1, by omega, rfl, by go_num, by rw [hst'.out, if_neg hey2.out, ← List.append_assoc, ← hA'.out]; exact hown7, (hfi'.out.trans hfq'.out).andThen hf7 (fun t ht => .inr (by have := hob t (by simpa using ht); omega)), by have := hf7.size; omega⟩
                  case measure => rw [hgk2'.out]; omega
              · have he : k = N.length := by omega
                subst he
                rw [nwB_all] at hown
                obtain ⟨a8, cap8, g8, off8, rfl, h8a, h8b, h8c, h8d⟩ := now_parts hown (by omega)
                have h8a' := Lib.hid h8a; have h8d' := Lib.hid h8d
                clear h8a h8d
                have hSe : Solo wr w2.heap.size wr.heap.size [g8] cb bm rg m P2 := (((hS5'.out.weak (Z' := []) (by simp)).fr0 hfi'.out).guard (.inl h8b)).grow (by omega)
                have hSe' := Lib.hid hSe; clear hSe
                go_wp2
                go_meet
                exact ⟨P2, _, a8, cap8, g8, off8, rfl, h8a'.out, h8c, h8d'.out, hSe'.out, hin2'.out, by rw [hdz'.out]; exact ((hNP'.out).filter _).cons _, hF5i'.out.fr hfr9⟩
          · have hne' : (r1 == 0) = false := by simpa using hne
            clear hne
            go_wp2_with (first | (go_at_call 20; refine hc.mono ?_; rintro e w5 ⟨rfl, hS5, hF5⟩))
            go_meet
            exact ⟨_, N, a7, cap7, g, off, rfl, ha7'.out, by have := hF5.size; omega, hcX'.out _ hF5, hS5.weak (by simp), hin2, hNP'.out, hF5.fr hfr9⟩
        have e2b : (x0 == 2) = false := by simpa using e2
        clear e2
        by_cases e3 : x0 = 3
        · subst e3
          have hc := sclean hSo9'.out hle9 (Nat.le_refl _) hZ9 x1 x2
          have hdz := dz_clean hnd'.out x1 x2
          have hin2 := hInS'.out.clean x1 x2
          obtain ⟨r, hr⟩ : ∃ r, r = cleanP P x1 x2 := ⟨_, rfl⟩
          rw [← hr] at hc hdz hin2
          obtain ⟨r1, P2⟩ := r
          dsimp only at hc hdz hin2
          clear hr
          rcases hdz with ⟨rfl, hdz⟩ | ⟨hne, rfl⟩
          · have hdz' := Lib.hid hdz; have hin2' := Lib.hid hin2
            clear hdz hin2
            go_wp2_with (first | (go_at_call 21; refine hc.mono ?_; rintro e w5 ⟨rfl, hS5, hF5⟩; have f1 := (show w5.cell? ⟨wr.heap.size, 1, none⟩ = some (.int .i64 x1) from by rw [hF5.cell (k := wr.heap.size) (.inl (by simp)) (by omega)]; exact c1); have lf := lt_of_cell f1; have hS5' := Lib.hid hS5; clear hc hS5))
            obtain ⟨w6, hw6⟩ : ∃ w6, w6 = w5.alloc (.cells #[] 31) := ⟨_, rfl⟩
            have hF56 : Fr [] w5 w6 := by rw [hw6]; exact (Fr.refl _ _).alloc _
            have hz6 : w6.heap.size = w5.heap.size + 1 := by rw [hw6]; simp
            have hown0 : w6.ownsRow w5.heap.size 31 4 (.slice (some ⟨w5.heap.size, 0, none⟩) 0 0) ([] : List Pg).length (([] : List Pg).flatMap encPg) := by
              rw [hw6]
              exact World.ownsRow_made w5 #[] 0 (Nat.le_refl _) (Nat.zero_le _) rfl
            rw [← hw6]
            have hz5 := hF5.size
            have hF5' := Lib.hid hF5; have hF56' := Lib.hid hF56
            have hown0' := Lib.hid hown0
            clear hw6 hF56 hF5 hown0
            obtain ⟨wo, rfl⟩ : ∃ wo : World, wo = wr := ⟨_, rfl⟩
            go_loopg [12, 13] N.length (fun gk nv iv wi => ∃ k : Nat, k ≤ N.length ∧ gk = N.length - k ∧ iv = .int .i64 k ∧ wi.ownsRow w5.heap.size 31 4 nv (([] : List Pg) ++ nwB N x1 (k)).length ((([] : List Pg) ++ nwB N x1 (k)).flatMap encPg) ∧ Fr [] w5 wi ∧ w5.heap.size < wi.heap.size)
            case atStart => exact ⟨0, Nat.zero_le _, rfl, rfl, hown0'.out, hF56'.out, by omega⟩
            case round =>
              obtain ⟨k, hk, hgk2, rfl, hown, hfi, hgt⟩ := hrel
              have hgk2' := Lib.hid hgk2; clear hgk2
              have hzi := hfi.size
              have hF5i : FrZ w2.heap.size [wo.heap.size, g] W9 wr := hF5'.out.trans (FrZ.of0 hfi)
              have hF5i' := Lib.hid hF5i; have hfi' := Lib.hid hfi
              have g1 := (show wr.cell? ⟨wo.heap.size, 1, none⟩ = some (.int .i64 x1) from by rw [hF5i.cell (k := wo.heap.size) (.inl (by simp)) (by omega)]; exact c1)
              have lg := lt_of_cell g1
              clear hF5i hfi
              by_cases hlt2 : k < N.length
              · have hN0 : N ≠ [] := by rintro rfl; simp at hlt2
                have ha7e := ha7'.out hN0
                subst ha7e
                obtain ⟨y, hy⟩ : ∃ y, N[k]? = some y := ⟨_, List.getElem?_eq_getElem hlt2⟩
                have hcy : ∀ j u, (encPg y)[j]? = some u → wr.cell? ⟨g, off + k * 4 + j, none⟩ = some u := fun j u hj => by rw [Nat.add_assoc]; exact hcX'.out wr hF5i'.out k y j u hy hj
                have y0 := hcy 0 _ rfl
                have y1c := hcy 1 _ rfl
                have y2c := hcy 2 _ rfl
                have y3c := hcy 3 _ rfl
                rw [Nat.add_zero] at y0
                have ly := lt_of_cell y0
                have hst := nwB_step (b := x1) hy
                have hal : (([] : List Pg) ++ nwB N x1 (k)).length ≤ 9 := by
                  have := nwB_len N x1 k
                  simp only [List.length_append, List.length_nil]; omega
                obtain ⟨y1, y2, y3, y4⟩ := y
                dsimp only at y0 y1c y2c y3c hst
                have hst' := Lib.hid hst
                clear hst hcy hy hN0
                by_cases hey : y1 = x1
                · subst hey
                  go_wp2
                  go_quiet (fail)
                  go_wp2
                  go_roundg (N.length - (k + 1))
                  case rel => exact ⟨k + 1, by omega, rfl, by go_num, by rw [hst'.out, if_pos trivial, List.append_nil]; exact owns_fr hown ((Fr.refl [] wr).drewN nq) (by simp), hfi'.out.drewN nq, hgt⟩
                  case measure => rw [hgk2'.out]; omega
                · have hey1 : (y1 != x1) = true := by simpa using hey
                  have hey2 := Lib.hid hey
                  clear hey
                  go_wp2
                  go_quiet (fail)
                  obtain ⟨wq, hwq⟩ : ∃ wq, wq = wr.drewN nq := ⟨_, rfl⟩
                  have hfq : Fr [] wr wq := by rw [hwq]; exact (Fr.refl [] wr).drewN nq
                  have z0 := (show wq.cell? ⟨g, off + k * 4, none⟩ = some (.int .i64 y1) from by rw [hfq.cell (p := ⟨g, _, none⟩) ly (by simp)]; exact y0)
                  have z1 := (show wq.cell? ⟨g, off + k * 4 + 1, none⟩ = some (.int .i64 y2) from by rw [hfq.cell (p := ⟨g, _, none⟩) ly (by simp)]; exact y1c)
                  have z2 := (show wq.cell? ⟨g, off + k * 4 + 2, none⟩ = some (.string y3) from by rw [hfq.cell (p := ⟨g, _, none⟩) ly (by simp)]; exact y2c)
                  have z3 := (show wq.cell? ⟨g, off + k * 4 + 3, none⟩ = some (.int .i64 y4) from by rw [hfq.cell (p := ⟨g, _, none⟩) ly (by simp)]; exact y3c)
                  have lz := lt_of_cell z0
                  have hownq := owns_fr hown hfq (by simp)
                  have hzq := hfq.size
                  obtain ⟨A, hA⟩ : ∃ A, A = (([] : List Pg) ++ nwB N x1 (k)) := ⟨_, rfl⟩
                  rw [← hA] at hownq hal
                  have hA' := Lib.hid hA
                  rw [← hwq]
                  have hfq' := Lib.hid hfq
                  clear y0 y1c y2c y3c ly hwq hfq hown g1 lg hA
                  go_wp2_with (first | (at_builtin; (refine wpList_push wq _ _ rfl _ _ 39 rfl w5.heap.size 31 Try.underlying39 infoPg rfl (by omega) u12 A rfl hownq (y1, y2, y3, y4) rfl encPg_len (enc1 _) rfl (by omega) (by omega) (by omega) ?_; intro v' w7 hown7 hf7)))
                  have hob := hownq.lt
                  go_roundg (N.length - (k + 1))
                  case rel => exact ⟨k + 1, by omega, rfl, by go_num, by rw [hst'.out, if_neg hey2.out, ← List.append_assoc, ← hA'.out]; exact hown7, (hfi'.out.trans hfq'.out).andThen hf7 (fun t ht => .inr (by have := hob t (by simpa using ht); omega)), by have := hf7.size; omega⟩
                  case measure => rw [hgk2'.out]; omega
              · have he : k = N.length := by omega
                subst he
                rw [nwB_all] at hown
                obtain ⟨a8, cap8, g8, off8, rfl, h8a, h8b, h8c, h8d⟩ := now_parts hown (by omega)
                have h8a' := Lib.hid h8a; have h8d' := Lib.hid h8d
                clear h8a h8d
                have hSe : Solo wr w2.heap.size wr.heap.size [g8] cb bm rg m P2 := (((hS5'.out.weak (Z' := []) (by simp)).fr0 hfi'.out).guard (.inl h8b)).grow (by omega)
                have hSe' := Lib.hid hSe; clear hSe
                go_wp2
                go_meet
                exact ⟨P2, _, a8, cap8, g8, off8, rfl, h8a'.out, h8c, h8d'.out, hSe'.out, hin2'.out, by rw [hdz'.out]; exact (hNP'.out).filter _, hF5i'.out.fr hfr9⟩
          · have hne' : (r1 == 0) = false := by simpa using hne
            clear hne
            go_wp2_with (first | (go_at_call 21; refine hc.mono ?_; rintro e w5 ⟨rfl, hS5, hF5⟩))
            go_meet
            exact ⟨_, N, a7, cap7, g, off, rfl, ha7'.out, by have := hF5.size; omega, hcX'.out _ hF5, hS5.weak (by simp), hin2, hNP'.out, hF5.fr hfr9⟩
        have e3b : (x0 == 3) = false := by simpa using e3
        clear e3
        by_cases e4 : x0 = 4
        · subst e4
          have hc := sdrop hSo9'.out hle9 (Nat.le_refl _) hZ9 x5 x6
          go_wp2_with (first | (go_at_call 22; refine hc.mono ?_; rintro e w5 ⟨rfl, hS5, hF5⟩))
          go_meet
          exact ⟨_, N, a7, cap7, g, off, rfl, ha7'.out, by have := hF5.size; omega, hcX'.out _ hF5, hS5.weak (by simp), hInS'.out.drop _ _, by rw [dz_drop]; exact hNP'.out, hF5.fr hfr9⟩
        have e4b : (x0 == 4) = false := by simpa using e4
        clear e4
        have hF0 : FrZ w2.heap.size [wr.heap.size, g] W9 W9 := FrZ.of0 (Fr.refl _ _)
        go_wp2
        go_meet
        exact ⟨P, N, a7, cap7, g, off, rfl, ha7'.out, by have := hF0.size; omega, hcX'.out _ hF0, hSo9'.out.weak (by simp), hInS'.out, hNP'.out, hF0.fr hfr9⟩
      case rest =>
        obtain ⟨P, N, a7, cap7, g, off, rfl, ha7, hg7, hcN, hSo, hInS, hNP, hfrc⟩ := hcut
        have hnd := hSo.nodup
        have hfew := hSo.few
        have hNl : N.length ≤ 8 := by rw [hNP.length_eq]; have := dz_le P; omega
        have hDN : (dirtyP P 0 256).length = N.length := by rw [dirty_len hInS, hNP.length_eq]
        have hmem : ∀ x ∈ N, x ∈ P := fun x hx => (List.mem_filter.1 ((hNP.mem_iff).1 hx)).1
        have hPm : (P.length : Int) ≤ 1 + n % 8 := by have := hmm'.out; omega
        have hcl := slist hSo
        have hcd : ∀ X, Fr [] wc X → _ := fun X hX => sdirty (hSo.fr0 hX) 0 256
        have hcd' := Lib.hid hcd; have hDN' := Lib.hid hDN; have hmem' := Lib.hid hmem; have kI' := Lib.hid hInS; have kS' := Lib.hid hSo; have kN' := Lib.hid hNP; have kC' := Lib.hid hcN; have kA' := Lib.hid ha7
        clear hcd hDN hmem hInS hSo hNP hcN ha7 hnd
        go_wp2_with (first | (go_at_call 15; refine hcl.mono ?_; rintro e w5 ⟨v5, rfl, hf5, hs5⟩; obtain ⟨a5, cap5, hv5, _, _, hat5⟩ := hs5.at encPg_len; subst hv5; have hat5' := Lib.hid hat5; have hcd1 := hcd'.out w5 hf5; clear hat5 hs5 hcl) | (go_at_call 23; refine hcd1.mono ?_; rintro e w6 ⟨v6, rfl, hf6, hs6⟩; obtain ⟨a6, cap6, hv6, _, _, _⟩ := hs6.at encPg_len; rw [hDN'.out] at hv6; subst hv6; clear hs6 hcd1))
        have hF6 : Fr [] wc w6 := hf5.trans hf6
        have hN6 : ∀ i x j u, N[i]? = some x → (encPg x)[j]? = some u → w6.cell? ⟨g, off + (i * 4 + j), none⟩ = some u := fun i x j u hi hj => by
          rw [hF6.cell (p := ⟨g, _, none⟩) hg7 (by simp)]; exact kC'.out i x j u hi hj
        have hP6 : P ≠ [] → ∃ g5 off5, a5 = some ⟨g5, off5, none⟩ ∧ ∀ i x j u, P[i]? = some x → (encPg x)[j]? = some u → w6.cell? ⟨g5, off5 + (i * 4 + j), none⟩ = some u := by
          intro hne
          obtain ⟨g5, off5, h1, _, h3, h4⟩ := hat5'.out hne
          exact ⟨g5, off5, h1, fun i x j u hi hj => by rw [hf6.cell (p := ⟨g5, _, none⟩) h3 (by simp)]; exact h4 i x j u hi hj⟩
        have hN6' := Lib.hid hN6; have hP6' := Lib.hid hP6
        have hg6 : g < w6.heap.size := Nat.lt_of_lt_of_le hg7 hF6.size
        have hF6' := Lib.hid hF6
        clear hN6 hP6 hf5 hf6 hF6
        obtain ⟨wo, rfl⟩ : ∃ wo : World, wo = wr := ⟨_, rfl⟩
        go_loopg [15, 16, 17] N.length (fun gk kv bv jv wi => ∃ k : Nat, k ≤ N.length ∧ gk = N.length - k ∧ kv = .int .i64 k ∧ ∃ q, wi = w6.drewN q)
        case atStart => exact ⟨0, Nat.zero_le _, rfl, rfl, 0, rfl⟩
        case round =>
          obtain ⟨k, hk, hgk2, rfl, q, rfl⟩ := hrel
          have hgk2' := Lib.hid hgk2; clear hgk2
          by_cases hlt2 : k < N.length
          · have hN0 : N ≠ [] := by rintro rfl; simp at hlt2
            have ha7e := kA'.out hN0
            subst ha7e
            obtain ⟨x, hx⟩ : ∃ x, N[k]? = some x := ⟨_, List.getElem?_eq_getElem hlt2⟩
            have hcx : ∀ j u, (encPg x)[j]? = some u → w6.cell? ⟨g, off + k * 4 + j, none⟩ = some u := fun j u hj => by rw [Nat.add_assoc]; exact hN6'.out k x j u hx hj
            have x0c := hcx 0 _ rfl
            have x1c := hcx 1 _ rfl
            have x2c := hcx 2 _ rfl
            have x3c := hcx 3 _ rfl
            rw [Nat.add_zero] at x0c
            have lx := lt_of_cell x0c
            have hxP := hmem'.out x (List.mem_of_getElem? hx)
            have hall := thK_all hxP
            have hall' := Lib.hid hall
            obtain ⟨x1, x2, x3, x4⟩ := x
            dsimp only at x0c x1c x2c x3c
            clear hcx hx hxP hall hN0
            go_wp2
            go_loopg [16, 17] P.length (fun gk3 tv cv wi => ∃ d : Nat, d ≤ P.length ∧ gk3 = P.length - d ∧ cv = .int .i64 d ∧ tv = .bool (thK P (x1, x2, x3, x4) d) ∧ ∃ q2, wi = w6.drewN q2)
            case atStart => exact ⟨0, Nat.zero_le _, rfl, rfl, rfl, q, rfl⟩
            case round =>
              obtain ⟨d, hd2, hgk3, rfl, rfl, q2, rfl⟩ := hrel
              have hgk3' := Lib.hid hgk3; clear hgk3
              by_cases hdt : d < P.length
              · obtain ⟨g5, off5, rfl, hcP⟩ := hP6'.out (by rintro rfl; simp at hdt)
                obtain ⟨y, hy⟩ : ∃ y, P[d]? = some y := ⟨_, List.getElem?_eq_getElem hdt⟩
                have hyc : ∀ j u, (encPg y)[j]? = some u → w6.cell? ⟨g5, off5 + d * 4 + j, none⟩ = some u := fun j u hj => by rw [Nat.add_assoc]; exact hcP d y j u hy hj
                have y0c := hyc 0 _ rfl
                have y1c := hyc 1 _ rfl
                have y2c := hyc 2 _ rfl
                have y3c := hyc 3 _ rfl
                rw [Nat.add_zero] at y0c
                have hts := thK_step (x := (x1, x2, x3, x4)) hy
                obtain ⟨y1, y2, y3, y4⟩ := y
                dsimp only at y0c y1c y2c y3c
                have ly := lt_of_cell y0c
                have hts' := Lib.hid hts
                obtain ⟨t, ht⟩ : ∃ t, t = thK P (x1, x2, x3, x4) d := ⟨_, rfl⟩
                rw [← ht] at hts' ⊢
                clear hyc hy hts ht hcP
                cases t with
                | true =>
                  go_wp2
                  go_quiet (fail)
                  go_wp2
                  go_roundg (P.length - (d + 1))
                  case rel => exact ⟨d + 1, by omega, rfl, by go_num, by rw [hts'.out]; rfl, q2 + nq, rfl⟩
                  case measure => rw [hgk3'.out]; omega
                | false =>
                  by_cases hyx : ((y1, y2, y3, y4) : Pg) = (x1, x2, x3, x4)
                  · have hts2 : thK P (x1, x2, x3, x4) (d + 1) = true := by rw [hts'.out, hyx]; simp
                    have hts2' := Lib.hid hts2
                    simp only [Prod.mk.injEq] at hyx
                    obtain ⟨rfl, rfl, rfl, rfl⟩ := hyx
                    clear hts2
                    go_wp2
                    go_quiet (fail)
                    go_wp2
                    go_roundg (P.length - (d + 1))
                    case rel => exact ⟨d + 1, by omega, rfl, by go_num, by rw [hts2'.out], q2 + nq, rfl⟩
                    case measure => rw [hgk3'.out]; omega
                  · have hts2 : thK P (x1, x2, x3, x4) (d + 1) = false := by rw [hts'.out, decide_eq_false hyx]; rfl
                    have hts2' := Lib.hid hts2
                    have key := pg_ne hyx
                    clear hyx hts2
                    rcases key with e1 | ⟨rfl, e2 | ⟨rfl, e3 | ⟨rfl, e4⟩⟩⟩
                    · have e1' : (y1 == x1) = false := by simpa using e1
                      clear e1
                      go_wp2
                      go_quiet (fail)
                      go_wp2
                      go_roundg (P.length - (d + 1))
                      case rel => exact ⟨d + 1, by omega, rfl, by go_num, by rw [hts2'.out], q2 + nq, rfl⟩
                      case measure => rw [hgk3'.out]; omega
                    · have e1' : (y2 == x2) = false := by simpa using e2
                      clear e2
                      go_wp2
                      go_quiet (fail)
                      go_wp2
                      go_roundg (P.length - (d + 1))
                      case rel => exact ⟨d + 1, by omega, rfl, by go_num, by rw [hts2'.out], q2 + nq, rfl⟩
                      case measure => rw [hgk3'.out]; omega
                    · have e1' : (y3.toList == x3.toList) = false := (bytes_beq_false_iff y3 x3).2 e3
                      clear e3
                      go_wp2
                      go_quiet (fail)
                      go_wp2
                      go_roundg (P.length - (d + 1))
                      case rel => exact ⟨d + 1, by omega, rfl, by go_num, by rw [hts2'.out], q2 + nq, rfl⟩
                      case measure => rw [hgk3'.out]; omega
                    · have e1' : (y4 == x4) = false := by simpa using e4
                      clear e4
                      go_wp2
                      go_quiet (fail)
                      go_wp2
                      go_roundg (P.length - (d + 1))
                      case rel => exact ⟨d + 1, by omega, rfl, by go_num, by rw [hts2'.out], q2 + nq, rfl⟩
                      case measure => rw [hgk3'.out]; omega
              · have he : d = P.length := by omega
                subst he
                rw [hall'.out]
                go_wp2
                go_roundg (N.length - (k + 1))
                case rel => exact ⟨k + 1, by omega, rfl, by go_num, q2, rfl⟩
                case measure => rw [hgk2'.out]; omega
          · go_wp2
            go_roundg (S.length - (i + 1))
            case rel => exact ⟨i + 1, P, N, a7, cap7, g, off, by omega, rfl, by go_num, rfl, kA'.out, hg6, hN6'.out, (kS'.out.fr0 (hF6'.out.drewN q)).grow (hF6'.out.size), kI'.out, kN'.out, (hfrc.trans hF6'.out).drewN q⟩
            case measure => rw [hgk'.out]; omega
    · go_wp2
      go_ret
      exact ⟨rfl, hf2.trans hfr⟩
end Go.Proofs.Ytafeemlojlngfaa
