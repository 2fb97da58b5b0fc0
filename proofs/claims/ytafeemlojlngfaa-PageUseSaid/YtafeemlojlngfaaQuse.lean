/- The law PageUse, walked. -/
import Derived.Test.YtafeemlojlngfaaLq5
namespace Go.Proofs.Ytafeemlojlngfaa
open Go.RowKit Go.Maps Go.Lib Go.Sort
theorem getP_len {P : List Pg} (hn : (P.map (·.1)).Nodup) (b : Int) : (getP P b).2.length = P.length := by
  unfold getP
  rcases at_split P hn b with ⟨_, h2⟩ | ⟨i, q, _, hi, hq, hb, hf, hc⟩
  · rw [h2]
  · rw [hf]
    simp only [List.length_cons]
    rw [← hc, List.length_append, List.length_take, List.length_drop]; omega
theorem getP_any (P : List Pg) (b : Int) : (getP P b).1.2 = P.any fun p => decide (p.1 = b) := by
  unfold getP findP
  cases h : P.find? (fun p => decide (b = p.1)) with
  | none =>
    rw [List.find?_eq_none] at h
    symm
    rw [List.any_eq_false]
    intro x hx
    have := h x hx
    simp only [decide_eq_true_eq] at this ⊢
    exact fun e => this e.symm
  | some q =>
    have h1 := List.find?_some h
    have h2 := List.mem_of_find?_eq_some h
    simp only [decide_eq_true_eq] at h1
    symm
    rw [List.any_eq_true]
    exact ⟨q, h2, by simpa using h1.symm⟩
theorem getP_is {P : List Pg} {b : Int} (h : (getP P b).1.2 = true) : P ≠ [] ∧ (getP P b).1.1.1 = b ∧ ∃ T, (getP P b).2 = (getP P b).1.1 :: T := by
  unfold getP at *
  cases hf : findP P b with
  | none => rw [hf] at h; simp at h
  | some q =>
    have h1 := List.find?_some hf
    have h2 := List.mem_of_find?_eq_some hf
    simp only [decide_eq_true_eq] at h1
    exact ⟨by rintro rfl; simp at h2, h1.symm, _, rfl⟩
theorem FrB.cell {B M : Nat} {a b : World} (h : FrB B M a b) {k o : Nat} (hM : M ≤ k) (hk : k < a.heap.size) : b.cell? ⟨k, o, none⟩ = a.cell? ⟨k, o, none⟩ := by
  obtain ⟨S, h1, h2⟩ := h
  exact h1.cell (p := ⟨k, o, none⟩) hk (fun hs => by have := (h2 k hs).2; omega)
theorem hlist {w : World} {B M cb bm rg rb n : Nat} {P P' : List Pg} (h : Half w B M cb bm rg rb n P P') :
    Calls Try.prog 15 #[.pointer (some ⟨cb, 0, none⟩)] w fun e w' => ∃ v, e = .returned v ∧ Fr [] w w' ∧ SliceIs w' (w.heap.size ≤ ·) encPg v P' := by
  obtain ⟨Q, rfl, h2, _⟩ := h
  refine (list_any h2).mono ?_
  rintro e w' ⟨v, rfl, hf, hown⟩
  exact ⟨v, rfl, hf, SliceIs.of_owns hown rfl⟩
theorem Half.lo {w : World} {B M cb bm rg rb n : Nat} {P P' : List Pg} (h : Half w B M cb bm rg rb n P P') : B ≤ rb := by obtain ⟨Q, h1, h2, h3, h4⟩ := h; exact (h4 rb (by simp)).1
theorem Half.hi {w : World} {B M cb bm rg rb n : Nat} {P P' : List Pg} (h : Half w B M cb bm rg rb n P P') : rb < M := by obtain ⟨Q, h1, h2, h3, h4⟩ := h; exact (h4 rb (by simp)).2
set_option maxRecDepth 100000 in
set_option maxHeartbeats 8000000 in
theorem use_law {B : Nat → Prop} (n : Int) (v : Value) (S : List St) (b : Int) (w : World) (hn0 : 0 ≤ n) (hn1 : n ≤ 255) (h : SliceIs w B encSt v S) :
    Calls Try.prog 7 #[.int .u8 n, v, .int .i64 b] w fun e w' => e = .returned (.bool true) ∧ Fr [] w w' := by
  have hhv := heavy_any v S w h
  have hsh := shown_any
  obtain ⟨a, cap, rfl, hc1, hc2, hat⟩ := h.at encSt_len
  have hat' := Lib.hid hat; clear hat h
  by_cases hv : heavyS S = true
  · rw [hv] at hhv
    have hsh1 := hsh w
    clear hv
    go_enter Try.func7, Try.ntmps7
    go_wp2_with (first | (go_at_call 8; refine hhv.mono ?_; rintro e w1 ⟨rfl, hw1⟩; have hw2 := hw1.symm; subst hw2) | (go_at_call 9; refine hsh1.mono ?_; rintro e w2 ⟨rfl, hf2⟩))
    go_ret
    exact ⟨rfl, hf2⟩
  · have hlen : S.length ≤ 150 := by
      unfold heavyS at hv
      simp only [Bool.or_eq_true, decide_eq_true_eq, not_or] at hv
      omega
    rw [Bool.not_eq_true] at hv
    rw [hv] at hhv
    have hsh1 := hsh w
    clear hv hsh
    obtain ⟨m, hm⟩ : ∃ m, m = (max 1 (min (1 + n % 12) 64)).toNat := ⟨_, rfl⟩
    have hnew : ∀ X, _ := fun X => new_any (1 + n % 12) X
    have hrnew : ∀ X, _ := fun X => rnew_any (1 + n % 12) X
    rw [← hm] at hnew hrnew
    have hnew' := Lib.hid hnew; have hrnew' := Lib.hid hrnew
    clear hm hnew hrnew
    go_enter Try.func7, Try.ntmps7
    go_wp2_with (first | (go_at_call 8; refine hhv.mono ?_; rintro e w1 ⟨rfl, hw1⟩; have hw2 := hw1.symm; subst hw2) | (go_at_call 9; refine hsh1.mono ?_; rintro e w2 ⟨rfl, hf2⟩; have hn2 := hnew'.out w2) | (go_at_call 10; refine hn2.mono ?_; rintro e w3 ⟨cb, bm, rg, rfl, hf3, l1, l2, l3, hC⟩; have hn3 := hrnew'.out w3; unfold ptr) | (go_at_call 11; refine hn3.mono ?_; rintro e w4 ⟨rfl, hf4, hR⟩; unfold ptr))
    have hz2 := hf2.size
    have hz3 := hf3.size
    have hst := Both.start l1 l2 l3 hC hf4 hz3 hR
    obtain ⟨rb, hrb⟩ : ∃ rb, rb = w3.heap.size := ⟨_, rfl⟩
    rw [← hrb] at hst ⊢
    have hF := hf3.trans hf4
    have hst' := Lib.hid hst; have hrb' := Lib.hid hrb
    clear hn2 hn3 hst hC hR hrb hsh1 hhv
    go_loopg [9] S.length (fun gk iv wr => ∃ (i : Nat) (P : List Pg), i ≤ S.length ∧ gk = S.length - i ∧ iv = .int .i64 i ∧ Both wr w2.heap.size wr.heap.size cb bm rg rb m P ∧ Fr [] w2 wr)
    case atStart => exact ⟨0, [], Nat.zero_le _, rfl, rfl, hst'.out, hF⟩
    case round =>
      obtain ⟨i, P, hi, hgk, rfl, hB, hfr⟩ := hrel
      have hgk' := Lib.hid hgk; clear hgk
      by_cases hlt : i < S.length
      · obtain ⟨g, off, rfl, _, hg2, hcells⟩ := hat'.out (by rintro rfl; simp at hlt)
        obtain ⟨x, hx⟩ : ∃ x, S[i]? = some x := ⟨_, List.getElem?_eq_getElem hlt⟩
        have hc : ∀ W, Fr [] w W → ∀ j u, (encSt x)[j]? = some u → W.cell? ⟨g, off + i * 7 + j, none⟩ = some u := fun W hW j u hj => by rw [hW.cell (p := ⟨g, _, none⟩) hg2 (by simp), Nat.add_assoc]; exact hcells i x j u hx hj
        have hc' := Lib.hid hc
        have hcr := hc wr (hf2.trans hfr)
        have k0 := hcr 0 _ rfl
        have k1 := hcr 1 _ rfl
        have k2 := hcr 2 _ rfl
        have k3 := hcr 3 _ rfl
        have k4 := hcr 4 _ rfl
        have k5 := hcr 5 _ rfl
        have k6 := hcr 6 _ rfl
        rw [Nat.add_zero] at k0
        have hzr := hfr.size
        have hdo := does_any hB hzr (Nat.le_refl _) x
        obtain ⟨P1, hP1⟩ : ∃ P1, P1 = stepP m P x := ⟨_, rfl⟩
        rw [← hP1] at hdo
        obtain ⟨x0, ⟨x1, x2, x3, x4⟩, x5, x6⟩ := x
        unfold aggSt at hdo
        dsimp only at k0 k1 k2 k3 k4 k5 k6 hdo
        clear hcells hx hc hcr hP1 hB
        by_cases e1 : x0 = 1
        · subst e1
          obtain ⟨r, hr⟩ : ∃ r, r = getP P1 x1 := ⟨_, rfl⟩
          have hri : r.1.2 = true → P1 ≠ [] := fun h => (getP_is (by rw [← hr]; exact h)).1
          obtain ⟨⟨⟨y1, y2, y3, y4⟩, is⟩, P2⟩ := r
          dsimp only at hri
          cases is with
          | false =>
            clear hri
            go_wp2_with (first | (go_at_call 12; refine hdo.mono ?_; rintro e w5 ⟨rfl, hB1, hF1⟩; have hf5 := hF1.fr hfr; have c15 := blist hB1) | (go_at_call 15; refine c15.mono ?_; rintro e w6 ⟨v6, rfl, hf6, hs6⟩; have hB2 := hB1.fr0 hf6; obtain ⟨a6, cap6, rfl, _, _, _⟩ := hs6; have hf6' := hf5.trans hf6; have hd := hc'.out w6 (hf2.trans hf6'); have d0 := hd 0 _ rfl; have d1 := hd 1 _ rfl; have d2 := hd 2 _ rfl; have d3 := hd 3 _ rfl; have d4 := hd 4 _ rfl; have d5 := hd 5 _ rfl; have d6 := hd 6 _ rfl; rw [Nat.add_zero] at d0; dsimp only at d0 d1 d2 d3 d4 d5 d6; clear hd; have hfo : Fr [] w6 (w6.alloc (.cells #[.int .i64 1, .int .i64 x1, .int .i64 x2, .string x3, .int .i64 x4, .int .i64 x5, .int .i64 x6] 35)) := (Fr.refl _ _).alloc _; have hz5 := hf5.size; have hz6 := hf6.size; have c18 := bget (hB2.fr0 hfo) hz5 (by simp; omega) x1; rw [← hr] at c18; have hnd1 := hB1.nodup; have hfw1 := hB1.few; have c24 : ∀ X, RefC X rb m P1 → _ := (fun X hX => rget_any hX (by omega) hnd1 x1); rw [← hr] at c24; have c24' := Lib.hid c24; clear c24 hnd1) | (go_at_call 18; unfold aggPg at c18; refine c18.mono ?_; rintro e w7 ⟨rfl, hh, hF2⟩; have hq := hF2.keep (heap_alloc_new w6 (.cells #[.int .i64 1, .int .i64 x1, .int .i64 x2, .string x3, .int .i64 x4, .int .i64 x5, .int .i64 x6] 35)) hz6; have u1 := (show w7.cell? ⟨w6.heap.size, 1, none⟩ = some (.int .i64 x1) from cell_at hq); have lu := lt_of_cell u1; clear hq; have hfp : Fr [] w7 (w7.alloc (.cells #[.int .i64 y1, .int .i64 y2, .string y3, .int .i64 y4] 31)) := (Fr.refl _ _).alloc _; have c24b := c24'.out _ (hh.ref.fr0 hfp); unfold aggPg at c24b; have hrbl := (hB1.rb)) | (go_at_call 24; refine c24b.mono ?_; rintro e w8 ⟨rfl, hf8, hR8⟩; have hq2 := hf8.keep (heap_alloc_new w7 _) (by have := hF2.size; simp at this ⊢; omega); have k0 := (show w8.cell? ⟨w7.heap.size, 0, none⟩ = some (.int .i64 y1) from cell_at hq2); have k1 := (show w8.cell? ⟨w7.heap.size, 1, none⟩ = some (.int .i64 y2) from cell_at hq2); have k2 := (show w8.cell? ⟨w7.heap.size, 2, none⟩ = some (.string y3) from cell_at hq2); have k3 := (show w8.cell? ⟨w7.heap.size, 3, none⟩ = some (.int .i64 y4) from cell_at hq2); have lk := lt_of_cell k0; clear hq2))
            have hbb := (hh.fr0 hfp).after hf8 hR8
            have hf9 : Fr [] w8 (w8.alloc (.cells #[.int .i64 y1, .int .i64 y2, .string y3, .int .i64 y4] 56)) := (Fr.refl _ _).alloc _
            have hF3 : FrB w2.heap.size w7.heap.size w7 w8 := (FrB.of0 hfp).trans (FrB.of hf8 (by have := hh.lo; have := hh.hi; simp; omega))
            have hfe := (hF3.fr (hF2.fr (hf6'.trans hfo))).trans hf9
            go_roundg (S.length - (i + 1))
            case rel => exact ⟨i + 1, P2, by omega, rfl, by go_num, (hbb.fr0 hf9).grow (by have := hfp.size; have := hf8.size; have := hf9.size; omega), hfe⟩
            case measure => rw [hgk'.out]; omega
          | true =>
            have hpos : ((P1.length : Int) == 0) = false := by
              have := hri rfl
              have h0 : P1.length ≠ 0 := fun h => this (List.eq_nil_of_length_eq_zero h)
              rw [beq_eq_false_iff_ne]; omega
            clear hri
            go_wp2_with (first | (go_at_call 12; refine hdo.mono ?_; rintro e w5 ⟨rfl, hB1, hF1⟩; have hf5 := hF1.fr hfr; have c15 := blist hB1) | (go_at_call 15; refine c15.mono ?_; rintro e w6 ⟨v6, rfl, hf6, hs6⟩; have hB2 := hB1.fr0 hf6; obtain ⟨a6, cap6, rfl, _, _, _⟩ := hs6; have hf6' := hf5.trans hf6; have hd := hc'.out w6 (hf2.trans hf6'); have d0 := hd 0 _ rfl; have d1 := hd 1 _ rfl; have d2 := hd 2 _ rfl; have d3 := hd 3 _ rfl; have d4 := hd 4 _ rfl; have d5 := hd 5 _ rfl; have d6 := hd 6 _ rfl; rw [Nat.add_zero] at d0; dsimp only at d0 d1 d2 d3 d4 d5 d6; clear hd; have hfo : Fr [] w6 (w6.alloc (.cells #[.int .i64 1, .int .i64 x1, .int .i64 x2, .string x3, .int .i64 x4, .int .i64 x5, .int .i64 x6] 35)) := (Fr.refl _ _).alloc _; have hz5 := hf5.size; have hz6 := hf6.size; have c18 := bget (hB2.fr0 hfo) hz5 (by simp; omega) x1; rw [← hr] at c18; have hnd1 := hB1.nodup; have hfw1 := hB1.few; have c24 : ∀ X, RefC X rb m P1 → _ := (fun X hX => rget_any hX (by omega) hnd1 x1); rw [← hr] at c24; have c24' := Lib.hid c24; clear c24 hnd1) | (go_at_call 18; unfold aggPg at c18; refine c18.mono ?_; rintro e w7 ⟨rfl, hh, hF2⟩; have hq := hF2.keep (heap_alloc_new w6 (.cells #[.int .i64 1, .int .i64 x1, .int .i64 x2, .string x3, .int .i64 x4, .int .i64 x5, .int .i64 x6] 35)) hz6; have u1 := (show w7.cell? ⟨w6.heap.size, 1, none⟩ = some (.int .i64 x1) from cell_at hq); have lu := lt_of_cell u1; clear hq; have hfp : Fr [] w7 (w7.alloc (.cells #[.int .i64 y1, .int .i64 y2, .string y3, .int .i64 y4] 31)) := (Fr.refl _ _).alloc _; have c24b := c24'.out _ (hh.ref.fr0 hfp); unfold aggPg at c24b; have hrbl := (hB1.rb)) | (go_at_call 24; refine c24b.mono ?_; rintro e w8 ⟨rfl, hf8, hR8⟩; have hq2 := hf8.keep (heap_alloc_new w7 _) (by have := hF2.size; simp at this ⊢; omega); have k0 := (show w8.cell? ⟨w7.heap.size, 0, none⟩ = some (.int .i64 y1) from cell_at hq2); have k1 := (show w8.cell? ⟨w7.heap.size, 1, none⟩ = some (.int .i64 y2) from cell_at hq2); have k2 := (show w8.cell? ⟨w7.heap.size, 2, none⟩ = some (.string y3) from cell_at hq2); have k3 := (show w8.cell? ⟨w7.heap.size, 3, none⟩ = some (.int .i64 y4) from cell_at hq2); have lk := lt_of_cell k0; clear hq2))
            have hbb := (hh.fr0 hfp).after hf8 hR8
            have hf9 : Fr [] w8 (w8.alloc (.cells #[.int .i64 y1, .int .i64 y2, .string y3, .int .i64 y4] 56)) := (Fr.refl _ _).alloc _
            have hF3 : FrB w2.heap.size w7.heap.size w7 w8 := (FrB.of0 hfp).trans (FrB.of hf8 (by have := hh.lo; have := hh.hi; simp; omega))
            have hfe := (hF3.fr (hF2.fr (hf6'.trans hfo))).trans hf9
            go_roundg (S.length - (i + 1))
            case rel => exact ⟨i + 1, P2, by omega, rfl, by go_num, (hbb.fr0 hf9).grow (by have := hfp.size; have := hf8.size; have := hf9.size; omega), hfe⟩
            case measure => rw [hgk'.out]; omega
        · have e1' : (x0 == 1) = false := by simpa using e1
          by_cases e2 : x0 = 2
          · subst e2
            obtain ⟨r, hr⟩ : ∃ r, r = getP P1 x1 := ⟨_, rfl⟩
            have hri : r.1.2 = true → P1 ≠ [] := fun h => (getP_is (by rw [← hr]; exact h)).1
            obtain ⟨⟨⟨y1, y2, y3, y4⟩, is⟩, P2⟩ := r
            dsimp only at hri
            cases is with
            | false =>
              clear hri
              go_wp2_with (first | (go_at_call 12; refine hdo.mono ?_; rintro e w5 ⟨rfl, hB1, hF1⟩; have hf5 := hF1.fr hfr; have c15 := blist hB1) | (go_at_call 15; refine c15.mono ?_; rintro e w6 ⟨v6, rfl, hf6, hs6⟩; have hB2 := hB1.fr0 hf6; obtain ⟨a6, cap6, rfl, _, _, _⟩ := hs6; have hf6' := hf5.trans hf6; have hd := hc'.out w6 (hf2.trans hf6'); have d0 := hd 0 _ rfl; have d1 := hd 1 _ rfl; have d2 := hd 2 _ rfl; have d3 := hd 3 _ rfl; have d4 := hd 4 _ rfl; have d5 := hd 5 _ rfl; have d6 := hd 6 _ rfl; rw [Nat.add_zero] at d0; dsimp only at d0 d1 d2 d3 d4 d5 d6; clear hd; have hfo : Fr [] w6 (w6.alloc (.cells #[.int .i64 2, .int .i64 x1, .int .i64 x2, .string x3, .int .i64 x4, .int .i64 x5, .int .i64 x6] 35)) := (Fr.refl _ _).alloc _; have hz5 := hf5.size; have hz6 := hf6.size; have c18 := bget (hB2.fr0 hfo) hz5 (by simp; omega) x1; rw [← hr] at c18; have hnd1 := hB1.nodup; have hfw1 := hB1.few; have c24 : ∀ X, RefC X rb m P1 → _ := (fun X hX => rget_any hX (by omega) hnd1 x1); rw [← hr] at c24; have c24' := Lib.hid c24; clear c24 hnd1) | (go_at_call 18; unfold aggPg at c18; refine c18.mono ?_; rintro e w7 ⟨rfl, hh, hF2⟩; have hq := hF2.keep (heap_alloc_new w6 (.cells #[.int .i64 2, .int .i64 x1, .int .i64 x2, .string x3, .int .i64 x4, .int .i64 x5, .int .i64 x6] 35)) hz6; have u1 := (show w7.cell? ⟨w6.heap.size, 1, none⟩ = some (.int .i64 x1) from cell_at hq); have lu := lt_of_cell u1; clear hq; have hfp : Fr [] w7 (w7.alloc (.cells #[.int .i64 y1, .int .i64 y2, .string y3, .int .i64 y4] 31)) := (Fr.refl _ _).alloc _; have c24b := c24'.out _ (hh.ref.fr0 hfp); unfold aggPg at c24b; have hrbl := (hB1.rb)) | (go_at_call 24; refine c24b.mono ?_; rintro e w8 ⟨rfl, hf8, hR8⟩; have hq2 := hf8.keep (heap_alloc_new w7 _) (by have := hF2.size; simp at this ⊢; omega); have k0 := (show w8.cell? ⟨w7.heap.size, 0, none⟩ = some (.int .i64 y1) from cell_at hq2); have k1 := (show w8.cell? ⟨w7.heap.size, 1, none⟩ = some (.int .i64 y2) from cell_at hq2); have k2 := (show w8.cell? ⟨w7.heap.size, 2, none⟩ = some (.string y3) from cell_at hq2); have k3 := (show w8.cell? ⟨w7.heap.size, 3, none⟩ = some (.int .i64 y4) from cell_at hq2); have lk := lt_of_cell k0; clear hq2))
              have hbb := (hh.fr0 hfp).after hf8 hR8
              have hf9 : Fr [] w8 (w8.alloc (.cells #[.int .i64 y1, .int .i64 y2, .string y3, .int .i64 y4] 56)) := (Fr.refl _ _).alloc _
              have hF3 : FrB w2.heap.size w7.heap.size w7 w8 := (FrB.of0 hfp).trans (FrB.of hf8 (by have := hh.lo; have := hh.hi; simp; omega))
              have hfe := (hF3.fr (hF2.fr (hf6'.trans hfo))).trans hf9
              go_roundg (S.length - (i + 1))
              case rel => exact ⟨i + 1, P2, by omega, rfl, by go_num, (hbb.fr0 hf9).grow (by have := hfp.size; have := hf8.size; have := hf9.size; omega), hfe⟩
              case measure => rw [hgk'.out]; omega
            | true =>
              have hpos : ((P1.length : Int) == 0) = false := by
                have := hri rfl
                have h0 : P1.length ≠ 0 := fun h => this (List.eq_nil_of_length_eq_zero h)
                rw [beq_eq_false_iff_ne]; omega
              clear hri
              go_wp2_with (first | (go_at_call 12; refine hdo.mono ?_; rintro e w5 ⟨rfl, hB1, hF1⟩; have hf5 := hF1.fr hfr; have c15 := blist hB1) | (go_at_call 15; refine c15.mono ?_; rintro e w6 ⟨v6, rfl, hf6, hs6⟩; have hB2 := hB1.fr0 hf6; obtain ⟨a6, cap6, rfl, _, _, _⟩ := hs6; have hf6' := hf5.trans hf6; have hd := hc'.out w6 (hf2.trans hf6'); have d0 := hd 0 _ rfl; have d1 := hd 1 _ rfl; have d2 := hd 2 _ rfl; have d3 := hd 3 _ rfl; have d4 := hd 4 _ rfl; have d5 := hd 5 _ rfl; have d6 := hd 6 _ rfl; rw [Nat.add_zero] at d0; dsimp only at d0 d1 d2 d3 d4 d5 d6; clear hd; have hfo : Fr [] w6 (w6.alloc (.cells #[.int .i64 2, .int .i64 x1, .int .i64 x2, .string x3, .int .i64 x4, .int .i64 x5, .int .i64 x6] 35)) := (Fr.refl _ _).alloc _; have hz5 := hf5.size; have hz6 := hf6.size; have c18 := bget (hB2.fr0 hfo) hz5 (by simp; omega) x1; rw [← hr] at c18; have hnd1 := hB1.nodup; have hfw1 := hB1.few; have c24 : ∀ X, RefC X rb m P1 → _ := (fun X hX => rget_any hX (by omega) hnd1 x1); rw [← hr] at c24; have c24' := Lib.hid c24; clear c24 hnd1) | (go_at_call 18; unfold aggPg at c18; refine c18.mono ?_; rintro e w7 ⟨rfl, hh, hF2⟩; have hq := hF2.keep (heap_alloc_new w6 (.cells #[.int .i64 2, .int .i64 x1, .int .i64 x2, .string x3, .int .i64 x4, .int .i64 x5, .int .i64 x6] 35)) hz6; have u1 := (show w7.cell? ⟨w6.heap.size, 1, none⟩ = some (.int .i64 x1) from cell_at hq); have lu := lt_of_cell u1; clear hq; have hfp : Fr [] w7 (w7.alloc (.cells #[.int .i64 y1, .int .i64 y2, .string y3, .int .i64 y4] 31)) := (Fr.refl _ _).alloc _; have c24b := c24'.out _ (hh.ref.fr0 hfp); unfold aggPg at c24b; have hrbl := (hB1.rb)) | (go_at_call 24; refine c24b.mono ?_; rintro e w8 ⟨rfl, hf8, hR8⟩; have hq2 := hf8.keep (heap_alloc_new w7 _) (by have := hF2.size; simp at this ⊢; omega); have k0 := (show w8.cell? ⟨w7.heap.size, 0, none⟩ = some (.int .i64 y1) from cell_at hq2); have k1 := (show w8.cell? ⟨w7.heap.size, 1, none⟩ = some (.int .i64 y2) from cell_at hq2); have k2 := (show w8.cell? ⟨w7.heap.size, 2, none⟩ = some (.string y3) from cell_at hq2); have k3 := (show w8.cell? ⟨w7.heap.size, 3, none⟩ = some (.int .i64 y4) from cell_at hq2); have lk := lt_of_cell k0; clear hq2))
              have hbb := (hh.fr0 hfp).after hf8 hR8
              have hf9 : Fr [] w8 (w8.alloc (.cells #[.int .i64 y1, .int .i64 y2, .string y3, .int .i64 y4] 56)) := (Fr.refl _ _).alloc _
              have hF3 : FrB w2.heap.size w7.heap.size w7 w8 := (FrB.of0 hfp).trans (FrB.of hf8 (by have := hh.lo; have := hh.hi; simp; omega))
              have hfe := (hF3.fr (hF2.fr (hf6'.trans hfo))).trans hf9
              go_roundg (S.length - (i + 1))
              case rel => exact ⟨i + 1, P2, by omega, rfl, by go_num, (hbb.fr0 hf9).grow (by have := hfp.size; have := hf8.size; have := hf9.size; omega), hfe⟩
              case measure => rw [hgk'.out]; omega
          · have e2' : (x0 == 2) = false := by simpa using e2
            clear e1 e2
            go_wp2_with (first | (go_at_call 12; refine hdo.mono ?_; rintro e w5 ⟨rfl, hB1, hF1⟩; have hf5 := hF1.fr hfr; have c15 := blist hB1) | (go_at_call 15; refine c15.mono ?_; rintro e w6 ⟨v6, rfl, hf6, hs6⟩; have hB2 := hB1.fr0 hf6; obtain ⟨a6, cap6, rfl, _, _, _⟩ := hs6; have hf6' := hf5.trans hf6; have hd := hc'.out w6 (hf2.trans hf6'); have d0 := hd 0 _ rfl; have d1 := hd 1 _ rfl; have d2 := hd 2 _ rfl; have d3 := hd 3 _ rfl; have d4 := hd 4 _ rfl; have d5 := hd 5 _ rfl; have d6 := hd 6 _ rfl; rw [Nat.add_zero] at d0; dsimp only at d0 d1 d2 d3 d4 d5 d6; clear hd))
            have hfo : Fr [] w6 (w6.alloc (.cells #[.int .i64 x0, .int .i64 x1, .int .i64 x2, .string x3, .int .i64 x4, .int .i64 x5, .int .i64 x6] 35)) := (Fr.refl _ _).alloc _
            go_roundg (S.length - (i + 1))
            case rel => exact ⟨i + 1, P1, by omega, rfl, by go_num, (hB2.fr0 hfo).grow (by have := hf6.size; have := hfo.size; omega), hf6'.trans hfo⟩
            case measure => rw [hgk'.out]; omega
      · have he : i = S.length := by omega
        subst he
        have hzr := hfr.size
        have hfew := hB.few
        have hnd := hB.nodup
        have hln := getP_len hnd b
        have han := getP_any P b
        have hgi : (getP P b).1.2 = true → _ := fun h => getP_is h
        obtain ⟨r, hr⟩ : ∃ r, r = getP P b := ⟨_, rfl⟩
        rw [← hr] at hln han hgi
        obtain ⟨⟨⟨y1, y2, y3, y4⟩, is⟩, P2⟩ := r
        dsimp only at hln han hgi
        have hlen2' := Lib.hid hln
        have han' := Lib.hid han
        have c15 := blist hB
        clear hnd hln han
        have hn0' : (P.length : Int) ≤ 64 := by omega
        go_wp2_with (first | (go_at_call 15; refine c15.mono ?_; rintro e w5 ⟨v5, rfl, hf5, hs5⟩; have hB5 := hB.fr0 hf5; have hz5 := hf5.size; have c18 := bget hB5 hzr hz5 b; rw [← hr] at c18; unfold aggPg at c18; obtain ⟨a5, cap5, rfl, _, _, hat5⟩ := hs5.at encPg_len; have hat5' := Lib.hid hat5; clear hat5 c15) | (go_at_call 18; refine c18.mono ?_; rintro e w6 ⟨rfl, hh, hF6⟩; have hfa : Fr [] w6 (w6.alloc (.cells #[.int .i64 y1, .int .i64 y2, .string y3, .int .i64 y4] 31)) := (Fr.refl _ _).alloc _; have c15b := hlist (hh.fr0 hfa); have hz6 := hF6.size) | (go_at_call 15; refine c15b.mono ?_; rintro e w7 ⟨v7, rfl, hf7, hs7⟩; have hq := hf7.keep (heap_alloc_new w6 _) (by simp); have k0 := (show w7.cell? ⟨w6.heap.size, 0, none⟩ = some (.int .i64 y1) from cell_at hq); have k1 := (show w7.cell? ⟨w6.heap.size, 1, none⟩ = some (.int .i64 y2) from cell_at hq); have k2 := (show w7.cell? ⟨w6.heap.size, 2, none⟩ = some (.string y3) from cell_at hq); have k3 := (show w7.cell? ⟨w6.heap.size, 3, none⟩ = some (.int .i64 y4) from cell_at hq); have lk := lt_of_cell k0; clear hq; obtain ⟨a7, cap7, rfl, _, _, hat7⟩ := hs7.at encPg_len; have hat7' := Lib.hid hat7; clear hat7; rw [hlen2'.out]))
        have hcell5 : P ≠ [] → ∃ g off, a5 = some ⟨g, off, none⟩ ∧ g < w7.heap.size ∧ ∀ i x j u, P[i]? = some x → (encPg x)[j]? = some u → w7.cell? ⟨g, off + (i * 4 + j), none⟩ = some u := by
          intro hne
          obtain ⟨g, off, h1, h2, h3, h4⟩ := hat5'.out hne
          have hfz := hfa.trans hf7
          refine ⟨g, off, h1, by have := hfz.size; omega, fun i x j u hi hj => ?_⟩
          rw [hfz.cell (p := ⟨g, _, none⟩) (by show g < w6.heap.size; omega) (by simp), hF6.cell h2 h3]
          exact h4 i x j u hi hj
        have hcell5' := Lib.hid hcell5
        have hFin : Fr [] w2 w7 := (hF6.fr (hfr.trans hf5)).trans (hfa.trans hf7)
        have hr' := Lib.hid hr
        clear hcell5 hB hB5 c18 hs5 hh hF6 hfa c15b hf7 hs7 hat' hr
        obtain ⟨wo, rfl⟩ : ∃ wo : World, wo = wr := ⟨_, rfl⟩
        go_loopg [20, 21] P.length (fun gk tv jv wi => ∃ j : Nat, j ≤ P.length ∧ gk = P.length - j ∧ jv = .int .i64 j ∧ tv = .bool ((P.take j).any fun p => decide (p.1 = b)) ∧ wi = w7)
        case atStart => exact ⟨0, Nat.zero_le _, rfl, rfl, rfl, rfl⟩
        case round =>
          obtain ⟨j, hj, hgk2, rfl, rfl, hwe⟩ := hrel
          obtain ⟨wi, rfl⟩ : ∃ wi : World, wi = wr := ⟨_, rfl⟩
          subst hwe
          have hgk2' := Lib.hid hgk2; clear hgk2
          by_cases hjt : j < P.length
          · obtain ⟨g, off, rfl, hg2, hcells⟩ := hcell5'.out (by rintro rfl; simp at hjt)
            obtain ⟨x, hx⟩ : ∃ x, P[j]? = some x := ⟨_, List.getElem?_eq_getElem hjt⟩
            have z0 := hcells j x 0 _ hx rfl
            rw [Nat.add_zero] at z0
            have lz := lt_of_cell z0
            obtain ⟨x1, x2, x3, x4⟩ := x
            dsimp only at z0
            have hstep : (P.take (j + 1)).any (fun p => decide (p.1 = b)) = ((P.take j).any (fun p => decide (p.1 = b)) || decide (x1 = b)) := by
              rw [List.take_add_one, hx, List.any_append]; simp
            have hstep' := Lib.hid hstep
            obtain ⟨d, hd⟩ : ∃ d, d = (P.take j).any (fun p => decide (p.1 = b)) := ⟨_, rfl⟩
            rw [← hd]
            rw [← hd] at hstep'
            clear hcells hx hstep hd
            cases d with
            | true =>
              go_wp2
              go_roundg (P.length - (j + 1))
              case rel => exact ⟨j + 1, by omega, rfl, by go_num, by rw [hstep'.out]; rfl, rfl⟩
              case measure => rw [hgk2'.out]; omega
            | false =>
              by_cases hxb : x1 = b
              · have hxb' : (x1 == b) = true := by simpa using hxb
                go_wp2
                go_roundg (P.length - (j + 1))
                case rel => exact ⟨j + 1, by omega, rfl, by go_num, by rw [hstep'.out]; simp [hxb], rfl⟩
                case measure => rw [hgk2'.out]; omega
              · have hxb' : (x1 == b) = false := by simpa using hxb
                go_wp2
                go_roundg (P.length - (j + 1))
                case rel => exact ⟨j + 1, by omega, rfl, by go_num, by rw [hstep'.out]; simp [hxb], rfl⟩
                case measure => rw [hgk2'.out]; omega
          · have he : j = P.length := by omega
            subst he
            rw [List.take_length]
            rw [← han'.out]
            cases is with
            | false =>
              clear hgi
              go_wp2
              go_quiet (fail)
              go_wp2
              go_ret
              exact ⟨rfl, (hf2.trans hFin).drewN nq⟩
            | true =>
              obtain ⟨hne, rfl, T, hP2⟩ := hgi rfl
              have hl2 : 0 < P.length := List.length_pos_iff.2 hne
              have hP2e : P2[0]? = some (y1, y2, y3, y4) := by rw [hP2]; rfl
              obtain ⟨g, off, rfl, _, hg2, hcells⟩ := hat7'.out (by rw [hP2]; simp)
              have z0 := hcells 0 _ 0 _ hP2e rfl
              have z1 := hcells 0 _ 1 _ hP2e rfl
              have z2 := hcells 0 _ 2 _ hP2e rfl
              have z3 := hcells 0 _ 3 _ hP2e rfl
              rw [Nat.zero_mul, Nat.zero_add] at z0 z1 z2 z3
              rw [Nat.add_zero] at z0
              dsimp only at z0 z1 z2 z3
              have lz := lt_of_cell z0
              clear hgi hcells hP2 hP2e hne
              go_wp2
              go_quiet (fail)
              go_wp2
              go_ret
              exact ⟨rfl, (hf2.trans hFin).drewN nq⟩
end Go.Proofs.Ytafeemlojlngfaa
