/- The law PageEvicts, walked. -/
import Derived.Test.YtafeemlojlngfaaQevp
namespace Go.Proofs.Ytafeemlojlngfaa
open Go.RowKit Go.Maps Go.Lib Go.Sort
theorem FrB.cell {B M : Nat} {a b : World} (h : FrB B M a b) {k o : Nat} (hM : M ≤ k) (hk : k < a.heap.size) : b.cell? ⟨k, o, none⟩ = a.cell? ⟨k, o, none⟩ := by
  obtain ⟨S, h1, h2⟩ := h
  exact h1.cell (p := ⟨k, o, none⟩) hk (fun hs => by have := (h2 k hs).2; omega)
theorem hlist {w : World} {B M cb bm rg rb n : Nat} {P P' : List Pg} (h : Half w B M cb bm rg rb n P P') :
    Calls Try.prog 15 #[.pointer (some ⟨cb, 0, none⟩)] w fun e w' => ∃ v, e = .returned v ∧ Fr [] w w' ∧ SliceIs w' (w.heap.size ≤ ·) encPg v P' := by
  obtain ⟨Q, rfl, h2, _⟩ := h
  refine (list_any h2).mono ?_
  rintro e w' ⟨v, rfl, hf, hown⟩
  exact ⟨v, rfl, hf, SliceIs.of_owns hown rfl⟩
theorem SliceIs.frB {w w' : World} {B0 M : Nat} {B : Nat → Prop} {α : Type} {enc : α → List Value} {v : Value} {S : List α} (h : SliceIs w B enc v S) (hf : FrB B0 M w w') (hB : ∀ g, B g → M ≤ g) : SliceIs w' B enc v S := by
  obtain ⟨T, h1, h2⟩ := hf
  exact h.fr h1 (fun g hg _ hm => by have := (h2 g hm).2; have := hB g hg; omega)
theorem FrB.keepLo {B M : Nat} {a b : World} (h : FrB B M a b) {k : Nat} {o : Obj} (hk : a.heap[k]? = some o) (hM : k < B) : b.heap[k]? = some o := by
  obtain ⟨S, h1, h2⟩ := h
  exact h1.keep hk (fun hs => by have := (h2 k hs).1; omega)
def thr (P2 : List Pg) (x : Pg) (c : Nat) : Bool := ((P2.take c).drop 1).any fun y => decide (y = x)
theorem thr_one (P2 : List Pg) (x : Pg) : thr P2 x 1 = false := by
  unfold thr
  cases P2 <;> simp
theorem thr_step {P2 : List Pg} {x y : Pg} {c : Nat} (hc : 1 ≤ c) (h : P2[c]? = some y) : thr P2 x (c + 1) = (thr P2 x c || decide (y = x)) := by
  unfold thr
  have hl : c ≤ P2.length := by have := (List.getElem?_eq_some_iff.1 h).1; omega
  rw [List.take_add_one, h, List.drop_append_of_le_length (by rw [List.length_take]; omega), List.any_append]
  simp
theorem thr_all (p x : Pg) (T : List Pg) : thr (p :: T) x (p :: T).length = inL T x := by
  unfold thr inL
  rw [List.take_length]; rfl
def gc (P T : List Pg) (j : Nat) : Nat := ((P.drop j).filter fun x => !inL T x).length
theorem gc_step {P T : List Pg} {i : Nat} {x : Pg} (h : P[i]? = some x) : gc P T i = gc P T (i + 1) + if inL T x = true then 0 else 1 := by
  unfold gc
  obtain ⟨hi, rfl⟩ := List.getElem?_eq_some_iff.1 h
  rw [← List.getElem_cons_drop (h := hi), List.filter_cons]
  cases hx : inL T P[i] <;> simp
theorem gc_le (P T : List Pg) (j : Nat) : gc P T j ≤ P.length := by
  unfold gc
  exact Nat.le_trans (List.length_filter_le _ _) (by rw [List.length_drop]; omega)
theorem pg_ne {x1 x2 : Int} {x3 : ByteArray} {x4 : Int} {y1 y2 : Int} {y3 : ByteArray} {y4 : Int} (h : ((x1, x2, x3, x4) : Pg) ≠ (y1, y2, y3, y4)) : x1 ≠ y1 ∨ x1 = y1 ∧ (x2 ≠ y2 ∨ x2 = y2 ∧ (x3 ≠ y3 ∨ x3 = y3 ∧ x4 ≠ y4)) := by
  by_cases e1 : x1 = y1
  · by_cases e2 : x2 = y2
    · by_cases e3 : x3 = y3
      · exact .inr ⟨e1, .inr ⟨e2, .inr ⟨e3, fun e4 => h (by rw [e1, e2, e3, e4])⟩⟩⟩
      · exact .inr ⟨e1, .inr ⟨e2, .inl e3⟩⟩
    · exact .inr ⟨e1, .inl e2⟩
  · exact .inl e1
theorem fill_len (n : Nat) (P : List Pg) (p : Pg) (h : P.length ≤ 64) : (fillP n P p).2.length ≤ 1000 := by
  have hc : ∀ b, (cutP P b).length ≤ P.length := fun b => List.length_filter_le _ _
  unfold fillP putP
  split
  · dsimp only; omega
  · split
    · split
      · rename_i q _ _; have := hc p.1; simp only [List.length_cons]; omega
      · dsimp only; omega
    · split
      · simp only [List.length_cons]; omega
      · split
        · dsimp only; omega
        · rename_i q _; have := hc q.1; simp only [List.length_cons]; omega
set_option maxRecDepth 100000 in
set_option maxHeartbeats 8000000 in
theorem evicts_law {B : Nat → Prop} (n : Int) (v : Value) (S : List St) (p : Pg) (w : World) (hn0 : 0 ≤ n) (hn1 : n ≤ 255) (h : SliceIs w B encSt v S) :
    Calls Try.prog 5 #[.int .u8 n, v, aggPg p] w fun e w' => e = .returned (.bool true) ∧ Fr [] w w' := by
  obtain ⟨p1, p2, p3, p4⟩ := p
  unfold aggPg
  dsimp only
  obtain ⟨W0, hW0⟩ : ∃ W, W = w.alloc (.cells #[.int .i64 p1, .int .i64 p2, .string p3, .int .i64 p4] 31) := ⟨_, rfl⟩
  have hf0 : Fr [] w W0 := by rw [hW0]; exact (Fr.refl _ _).alloc _
  have hbx : W0.heap[w.heap.size]? = some (.cells #[.int .i64 p1, .int .i64 p2, .string p3, .int .i64 p4] 31 (0, 0)) := by rw [hW0]; exact heap_alloc_new w _
  have hhv := heavy_any v S W0 (h.fr hf0 (by simp))
  have hsh := shown_any
  obtain ⟨a, cap, rfl, hc1, hc2, hat⟩ := h.at encSt_len
  have hat' := Lib.hid hat; have hW0' := Lib.hid hW0; have hbx' := Lib.hid hbx
  clear hat h
  have hsh1 := hsh W0
  by_cases hv : heavyS S = true
  · rw [hv] at hhv
    rw [hW0] at hhv hsh1
    clear hv hW0 hbx
    go_enter Try.func5, Try.ntmps5
    go_wp2_with (first | (go_at_call 8; refine hhv.mono ?_; rintro e w1 ⟨rfl, hw1⟩; have hw2 := hw1.symm; subst hw2) | (go_at_call 9; refine hsh1.mono ?_; rintro e w2 ⟨rfl, hf2⟩))
    go_ret
    exact ⟨rfl, hf0.trans (by rw [hW0'.out]; exact hf2)⟩
  rw [Bool.not_eq_true] at hv
  have hlen : S.length ≤ 150 := by
    unfold heavyS at hv
    simp only [Bool.or_eq_false_iff, decide_eq_false_iff_not] at hv
    omega
  rw [hv] at hhv
  clear hv
  by_cases hd : 100 < p3.size
  · have b2 : W0.cell? ⟨w.heap.size, 2, none⟩ = some (.string p3) := cell_at hbx
    rw [hW0] at hhv hsh1
    clear hbx b2 hW0
    go_enter Try.func5, Try.ntmps5
    go_wp2_with (first | (go_at_call 8; refine hhv.mono ?_; rintro e w1 ⟨rfl, hw1⟩; have hw2 := hw1.symm; subst hw2) | (go_at_call 9; refine hsh1.mono ?_; rintro e w2 ⟨rfl, hf2⟩))
    go_ret
    exact ⟨rfl, hf0.trans (by rw [hW0'.out]; exact hf2)⟩
  obtain ⟨m, hm⟩ : ∃ m, m = (max 1 (min (1 + n % 8) 64)).toNat := ⟨_, rfl⟩
  have hnew : ∀ X, _ := fun X => new_any (1 + n % 8) X
  have hrnew : ∀ X, _ := fun X => rnew_any (1 + n % 8) X
  rw [← hm] at hnew hrnew
  have hnew' := Lib.hid hnew; have hrnew' := Lib.hid hrnew
  rw [hW0] at hhv hsh1
  clear hm hnew hrnew hbx hW0 hsh
  go_enter Try.func5, Try.ntmps5
  go_wp2_with (first | (go_at_call 8; refine hhv.mono ?_; rintro e w1 ⟨rfl, hw1⟩; have hw2 := hw1.symm; subst hw2) | (go_at_call 9; refine hsh1.mono ?_; rintro e w2 ⟨rfl, hf2⟩; have hn2 := hnew'.out w2) | (go_at_call 10; refine hn2.mono ?_; rintro e w3 ⟨cb, bm, rg, rfl, hf3, l1, l2, l3, hC⟩; have hn3 := hrnew'.out w3; unfold ptr) | (go_at_call 11; refine hn3.mono ?_; rintro e w4 ⟨rfl, hf4, hR⟩; unfold ptr))
  rw [← hW0'.out] at hf2
  have hfw2 : Fr [] w w2 := hf0.trans hf2
  have hz2 := hf2.size
  have hz0 : W0.heap.size = w.heap.size + 1 := by rw [hW0'.out]; simp
  have hz3 := hf3.size
  have hst := Both.start l1 l2 l3 hC hf4 hz3 hR
  obtain ⟨rb, hrb⟩ : ∃ rb, rb = w3.heap.size := ⟨_, rfl⟩
  rw [← hrb] at hst ⊢
  have hF := hf3.trans hf4
  have hst' := Lib.hid hst; have hrb' := Lib.hid hrb
  have hb2 := hf2.keep hbx'.out (by simp)
  have hb2' := Lib.hid hb2; have hz0' := Lib.hid hz0
  have hzw : w.heap.size < w2.heap.size := by omega
  clear hn2 hn3 hst hC hR hrb hsh1 hhv hb2 hz0
  go_loopg [9] S.length (fun gk iv wr => ∃ (i : Nat) (P : List Pg), i ≤ S.length ∧ gk = S.length - i ∧ iv = .int .i64 i ∧ Both wr w2.heap.size wr.heap.size cb bm rg rb m P ∧ Fr [] w2 wr)
  case atStart => exact ⟨0, [], Nat.zero_le _, rfl, rfl, hst'.out, hF⟩
  case round =>
    obtain ⟨i, P, hi, hgk, rfl, hB, hfr⟩ := hrel
    have hgk' := Lib.hid hgk; clear hgk
    have hzr := hfr.size
    by_cases hlt : i < S.length
    · obtain ⟨g, off, rfl, _, hg2, hcells⟩ := hat'.out (by rintro rfl; simp at hlt)
      obtain ⟨x, hx⟩ : ∃ x, S[i]? = some x := ⟨_, List.getElem?_eq_getElem hlt⟩
      have hcr : ∀ j u, (encSt x)[j]? = some u → wr.cell? ⟨g, off + i * 7 + j, none⟩ = some u := fun j u hj => by rw [(hfw2.trans hfr).cell (p := ⟨g, _, none⟩) hg2 (by simp), Nat.add_assoc]; exact hcells i x j u hx hj
      have k0 := hcr 0 _ rfl
      have k1 := hcr 1 _ rfl
      have k2 := hcr 2 _ rfl
      have k3 := hcr 3 _ rfl
      have k4 := hcr 4 _ rfl
      have k5 := hcr 5 _ rfl
      have k6 := hcr 6 _ rfl
      rw [Nat.add_zero] at k0
      have hdo := does_any hB hzr (Nat.le_refl _) x
      obtain ⟨P1, hP1⟩ : ∃ P1, P1 = stepP m P x := ⟨_, rfl⟩
      rw [← hP1] at hdo
      obtain ⟨x0, ⟨x1, x2, x3, x4⟩, x5, x6⟩ := x
      unfold aggSt at hdo
      dsimp only at k0 k1 k2 k3 k4 k5 k6 hdo
      clear hcells hx hcr hP1 hB
      go_wp2_with (first | (go_at_call 12; refine hdo.mono ?_; rintro e w5 ⟨rfl, hB1, hF1⟩; have hf5 := hF1.fr hfr))
      go_roundg (S.length - (i + 1))
      case rel => exact ⟨i + 1, P1, by omega, rfl, by go_num, hB1, hf5⟩
      case measure => rw [hgk'.out]; omega
    · have he : i = S.length := by omega
      subst he
      have hnd := hB.nodup
      have hfew := hB.few
      have c15 := blist hB
      obtain ⟨r, hr⟩ : ∃ r, r = fillP m P (p1, p2, p3, 0) := ⟨_, rfl⟩
      have hr' := Lib.hid hr
      have hnd' := Lib.hid hnd
      have hb5 := hfr.keep hb2'.out (by simp)
      have hb5' := Lib.hid hb5
      clear hnd hr hb5
      have hcase : (r.1 ≠ 0 ∧ r.2 = P) ∨ (r.1 = 0 ∧ ∃ T : List Pg, r.2 = (p1, p2, p3, 0) :: T ∧ (∀ (i : Nat) (x : Pg), P[i]? = some x → x ∉ T → x.2.2.2 = 0 ∧ (x.1 = p1 ∨ ∀ (m : Nat) (y : Pg), i < m → P[m]? = some y → y.2.2.2 ≠ 0)) ∧ (P.filter fun x => !inL T x).length ≤ 1) := by
        rw [hr'.out]
        by_cases he : (fillP m P (p1, p2, p3, 0)).1 = 0
        · exact .inr ⟨he, evict_facts hnd'.out he⟩
        · exact .inl ⟨he, fill_same he⟩
      have hPm : r.2.length ≤ 1000 ∧ P.length ≤ 64 := by
        refine ⟨?_, by omega⟩
        rw [hr'.out]
        exact fill_len m P (p1, p2, p3, 0) (by omega)
      obtain ⟨e0, P2⟩ := r
      dsimp only at hcase hr' hPm
      obtain ⟨hTl, hPl⟩ := hPm
      rcases hcase with ⟨he, hPe⟩ | ⟨rfl, T, rfl, hTx, hgone⟩
      · have hPe := hPe.symm
        subst hPe
        have he1 : (e0 != 0) = true := by simpa using he
        clear he
        go_wp2_with (first | (go_at_call 15; refine c15.mono ?_; rintro e w5 ⟨v5, rfl, hf5, hs5⟩; have hB5 := hB.fr0 hf5; have hz5 := hf5.size; have hb6 := hf5.keep hb5'.out (by simp); have b0 := (show w5.cell? ⟨w.heap.size, 0, none⟩ = some (.int .i64 p1) from cell_at hb6); have b1 := (show w5.cell? ⟨w.heap.size, 1, none⟩ = some (.int .i64 p2) from cell_at hb6); have b2 := (show w5.cell? ⟨w.heap.size, 2, none⟩ = some (.string p3) from cell_at hb6); have b3 := (show w5.cell? ⟨w.heap.size, 3, none⟩ = some (.int .i64 p4) from cell_at hb6); have lb6 := lt_of_cell b0; have n3 := (show w5.frozen? ⟨w.heap.size, 3, none⟩ = false from frozen_at hb6); have hfS : Fr [w.heap.size] w5 (w5.setCell ⟨w.heap.size, 3, none⟩ (.int .i64 0)) := (Fr.refl _ _).setCell _ _ (.inl (by simp)); have hB6 := hB5.frT hb6 (by decide) (by decide) (by decide) (by decide) hfS; have c19 := bfill hB6 hzr (by simp [World.setCell]; omega) (p1, p2, p3, 0); rw [← hr'.out] at c19; unfold aggPg at c19; dsimp only at c19; have hbz := setCell_at (i := 3) hb6 (.int .i64 0); have hbz' := Lib.hid hbz; obtain ⟨a5, cap5, rfl, _, _, hat5⟩ := hs5.at encPg_len; have hat5' := Lib.hid hat5; clear hat5 c15 hb6 hbz) | (go_at_call 19; refine c19.mono ?_; rintro e w6 ⟨rfl, hh, hF6⟩; have c15b := hlist hh) | (go_at_call 15; refine c15b.mono ?_; rintro e w7 ⟨v7, rfl, hf7, hs7⟩; have hs57 := ((hs5.fr hfS (by simp; omega)).frB hF6 (fun g hg => hg)).fr hf7 (by simp); have c14 := theirs_any v7 P w7 hs7 (by omega)) | (go_at_call 14; refine c14.mono ?_; rintro e w8 ⟨v8, rfl, hf8, hs8⟩; have c14b := theirs_any _ P w8 (hs57.fr hf8 (by simp)) (by omega); clear c14) | (go_at_call 14; refine c14b.mono ?_; rintro e w9 ⟨v9, rfl, hf9, hs9⟩; have c13 := same_any v8 v9 P P w9 (hs8.fr hf9 (by simp)) hs9 (by omega)) | (go_at_call 13; refine c13.mono ?_; rintro e w10 ⟨rfl, hf10⟩))
        have hF56 : ∀ {W : World}, FrB w2.heap.size wr.heap.size (w5.setCell ⟨w.heap.size, 3, none⟩ (.int .i64 0)) W → Fr [] w W := by
          intro W hW
          obtain ⟨S1, hS1, hS2⟩ := hW
          have q1 : Fr [] w w5 := (hfw2.trans hfr).trans hf5
          have q2 : Fr [] w (w5.setCell ⟨w.heap.size, 3, none⟩ (.int .i64 0)) := q1.andThen hfS (by simp)
          exact q2.andThen hS1 (fun t ht => .inr (by have := (hS2 t ht).1; have := hfw2.size; omega))
        go_ret
        exact ⟨rfl, (((hF56 hF6).trans hf7).trans hf8).trans (hf9.trans hf10)⟩
      · have hTx' := Lib.hid hTx; have hgone' := Lib.hid hgone
        clear hTx hgone
        go_wp2_with (first | (go_at_call 15; refine c15.mono ?_; rintro e w5 ⟨v5, rfl, hf5, hs5⟩; have hB5 := hB.fr0 hf5; have hz5 := hf5.size; have hb6 := hf5.keep hb5'.out (by simp); have b0 := (show w5.cell? ⟨w.heap.size, 0, none⟩ = some (.int .i64 p1) from cell_at hb6); have b1 := (show w5.cell? ⟨w.heap.size, 1, none⟩ = some (.int .i64 p2) from cell_at hb6); have b2 := (show w5.cell? ⟨w.heap.size, 2, none⟩ = some (.string p3) from cell_at hb6); have b3 := (show w5.cell? ⟨w.heap.size, 3, none⟩ = some (.int .i64 p4) from cell_at hb6); have lb6 := lt_of_cell b0; have n3 := (show w5.frozen? ⟨w.heap.size, 3, none⟩ = false from frozen_at hb6); have hfS : Fr [w.heap.size] w5 (w5.setCell ⟨w.heap.size, 3, none⟩ (.int .i64 0)) := (Fr.refl _ _).setCell _ _ (.inl (by simp)); have hB6 := hB5.frT hb6 (by decide) (by decide) (by decide) (by decide) hfS; have c19 := bfill hB6 hzr (by simp [World.setCell]; omega) (p1, p2, p3, 0); rw [← hr'.out] at c19; unfold aggPg at c19; dsimp only at c19; have hbz := setCell_at (i := 3) hb6 (.int .i64 0); have hbz' := Lib.hid hbz; obtain ⟨a5, cap5, rfl, _, _, hat5⟩ := hs5.at encPg_len; have hat5' := Lib.hid hat5; clear hat5 c15 hb6 hbz) | (go_at_call 19; refine c19.mono ?_; rintro e w6 ⟨rfl, hh, hF6⟩; have c15b := hlist hh) | (go_at_call 15; refine c15b.mono ?_; rintro e w7 ⟨v7, rfl, hf7, hs7⟩; have hb7 := hf7.keep (hF6.keepLo hbz'.out (by have := hz0'.out; omega)) (by simp); have c0 := (show w7.cell? ⟨w.heap.size, 0, none⟩ = some (.int .i64 p1) from by rw [cell_at hb7]; rfl); have c1 := (show w7.cell? ⟨w.heap.size, 1, none⟩ = some (.int .i64 p2) from by rw [cell_at hb7]; rfl); have c2 := (show w7.cell? ⟨w.heap.size, 2, none⟩ = some (.string p3) from by rw [cell_at hb7]; rfl); have c3 := (show w7.cell? ⟨w.heap.size, 3, none⟩ = some (.int .i64 0) from by rw [cell_at hb7]; rfl); have lb7 := lt_of_cell c0; clear hb7; obtain ⟨a7, cap7, rfl, _, _, hat7⟩ := hs7.at encPg_len; have hat7' := Lib.hid hat7; clear hat7; rw [List.length_cons]))
        have hF56 : ∀ {W : World}, FrB w2.heap.size wr.heap.size (w5.setCell ⟨w.heap.size, 3, none⟩ (.int .i64 0)) W → Fr [] w W := by
          intro W hW
          obtain ⟨S1, hS1, hS2⟩ := hW
          have q1 : Fr [] w w5 := (hfw2.trans hfr).trans hf5
          have q2 : Fr [] w (w5.setCell ⟨w.heap.size, 3, none⟩ (.int .i64 0)) := q1.andThen hfS (by simp)
          exact q2.andThen hS1 (fun t ht => .inr (by have := (hS2 t ht).1; have := hfw2.size; omega))
        obtain ⟨g7, off7, rfl, _, hg7, hcT⟩ := hat7'.out (by simp)
        have z0 := hcT 0 _ 0 _ rfl rfl
        have z1 := hcT 0 _ 1 _ rfl rfl
        have z2 := hcT 0 _ 2 _ rfl rfl
        have z3 := hcT 0 _ 3 _ rfl rfl
        rw [Nat.zero_mul, Nat.zero_add] at z0 z1 z2 z3
        rw [Nat.add_zero] at z0
        dsimp only at z0 z1 z2 z3
        have hcT' := Lib.hid hcT; clear hcT
        go_quiet (fail)
        go_wp2
        clear z0 z1 z2 z3
        have hPc : P ≠ [] → ∃ g off, a5 = some ⟨g, off, none⟩ ∧ g < w7.heap.size ∧ ∀ i x j u, P[i]? = some x → (encPg x)[j]? = some u → w7.cell? ⟨g, off + (i * 4 + j), none⟩ = some u := by
          intro hne
          obtain ⟨g, off, h1, h2, h3, h4⟩ := hat5'.out hne
          have hzz := hF6.size
          have hzs : (w5.setCell ⟨w.heap.size, 3, none⟩ (.int .i64 0)).heap.size = w5.heap.size := by simp [World.setCell]
          have hz7 := hf7.size
          refine ⟨g, off, h1, by omega, fun i x j u hi hj => ?_⟩
          rw [hf7.cell (p := ⟨g, _, none⟩) (by show g < w6.heap.size; omega) (by simp), hF6.cell h2 (by omega), hfS.cell (p := ⟨g, _, none⟩) h3 (by simp; have := hz0'.out; omega)]
          exact h4 i x j u hi hj
        have hPc' := Lib.hid hPc
        have hFin : Fr [] w w7 := (hF56 hF6).trans hf7
        clear hPc hB hB5 hB6 c19 hs5 hh hF6 hfS c15b hf7 hs7 hat' hF56 b0 b1 b2 b3 lb6 n3
        obtain ⟨wo, rfl⟩ : ∃ wo : World, wo = wr := ⟨_, rfl⟩
        have hTl' : ((p1, p2, p3, 0) :: T : List Pg).length ≤ 1000 := hTl
        have hTb : T.length < 1000 := by rw [List.length_cons] at hTl; omega
        go_loopg [13, 14] P.length (fun gk gv kv wi => ∃ k : Int, -1 ≤ k ∧ k < P.length ∧ gk = (k + 1).toNat ∧ kv = .int .i64 k ∧ gv = .int .i64 (gc P T (k + 1).toNat : Nat) ∧ ∃ q, wi = w7.drewN q)
        case atStart => exact ⟨(P.length : Int) - 1, by omega, by omega, by omega, rfl, by rw [show ((P.length : Int) - 1 + 1).toNat = P.length from by omega]; unfold gc; rw [List.drop_length]; rfl, nq, rfl⟩
        case round =>
          obtain ⟨k, hk1, hk2, hgk2, rfl, rfl, q, rfl⟩ := hrel
          have hgk2' := Lib.hid hgk2; clear hgk2
          by_cases hneg : k < 0
          · obtain rfl : k = -1 := by omega
            have hg1 : gc P T ((-1 : Int) + 1).toNat ≤ 1 := by
              have := hgone'.out
              unfold gc
              simpa using this
            obtain ⟨c, hc⟩ : ∃ c, c = gc P T ((-1 : Int) + 1).toNat := ⟨_, rfl⟩
            rw [← hc] at hg1 ⊢
            clear hc
            go_wp2
            go_ret
            refine ⟨?_, hFin.drewN q⟩
            show Ending.returned (.bool (decide ((c : Int) ≤ 1))) = _
            rw [decide_eq_true (by omega)]
          · obtain ⟨i, rfl⟩ : ∃ i : Nat, k = i := ⟨k.toNat, by omega⟩
            have hiP : i < P.length := by omega
            have e1 : ((i : Int) + 1).toNat = i + 1 := by omega
            rw [e1]
            rw [e1] at hgk2'
            clear e1
            obtain ⟨g5, off5, rfl, hg5, hcP⟩ := hPc'.out (by rintro rfl; simp at hiP)
            obtain ⟨x, hx⟩ : ∃ x, P[i]? = some x := ⟨_, List.getElem?_eq_getElem hiP⟩
            have hcP' := Lib.hid hcP
            have hxc : ∀ j u, (encPg x)[j]? = some u → w7.cell? ⟨g5, off5 + i * 4 + j, none⟩ = some u := fun j u hj => by rw [Nat.add_assoc]; exact hcP i x j u hx hj
            have x0c := hxc 0 _ rfl
            have x1c := hxc 1 _ rfl
            have x2c := hxc 2 _ rfl
            have x3c := hxc 3 _ rfl
            rw [Nat.add_zero] at x0c
            have hx' := Lib.hid hx
            have hst := gc_step (T := T) hx
            have hgl := gc_le P T (i + 1)
            obtain ⟨c, hc⟩ : ∃ c, c = gc P T (i + 1) := ⟨_, rfl⟩
            rw [← hc] at hst hgl ⊢
            have hfx := hTx'.out i x hx
            have hfx' := Lib.hid hfx; have hst' := Lib.hid hst
            obtain ⟨x1, x2, x3, x4⟩ := x
            dsimp only at x0c x1c x2c x3c
            have lx := lt_of_cell x0c
            clear hcP hxc hx hfx hst hc
            obtain ⟨L2, hL2⟩ : ∃ L2, L2 = ((p1, p2, p3, 0) :: T : List Pg) := ⟨_, rfl⟩
            have hLl : L2.length = T.length + 1 := by rw [hL2]; rfl
            rw [← hL2] at hcT' hTl'
            have hL2' := Lib.hid hL2; have hLl' := Lib.hid hLl
            clear hL2 hLl
            go_wp2
            go_loopg [15, 16] T.length (fun gk3 tv cv wi => ∃ d : Nat, 1 ≤ d ∧ d ≤ T.length + 1 ∧ gk3 = T.length + 1 - d ∧ cv = .int .i64 d ∧ tv = .bool (thr L2 (x1, x2, x3, x4) d) ∧ ∃ q2, wi = w7.drewN q2)
            case atStart => exact ⟨1, by omega, by omega, rfl, rfl, by rw [thr_one], q, rfl⟩
            case round =>
              obtain ⟨d, hd1, hd2, hgk3, rfl, rfl, q2, rfl⟩ := hrel
              have hgk3' := Lib.hid hgk3; clear hgk3
              by_cases hdt : d < T.length + 1
              · obtain ⟨y, hy⟩ : ∃ y, L2[d]? = some y := ⟨_, List.getElem?_eq_getElem (by rw [hLl'.out]; exact hdt)⟩
                have hyc : ∀ j u, (encPg y)[j]? = some u → w7.cell? ⟨g7, off7 + d * 4 + j, none⟩ = some u := fun j u hj => by rw [Nat.add_assoc]; exact hcT'.out d y j u hy hj
                have y0c := hyc 0 _ rfl
                have y1c := hyc 1 _ rfl
                have y2c := hyc 2 _ rfl
                have y3c := hyc 3 _ rfl
                rw [Nat.add_zero] at y0c
                have hts := thr_step (x := (x1, x2, x3, x4)) hd1 hy
                obtain ⟨y1, y2, y3, y4⟩ := y
                dsimp only at y0c y1c y2c y3c
                have ly := lt_of_cell y0c
                have hts' := Lib.hid hts
                obtain ⟨t, ht⟩ : ∃ t, t = thr L2 (x1, x2, x3, x4) d := ⟨_, rfl⟩
                rw [← ht] at hts' ⊢
                clear hyc hy hts ht
                cases t with
                | true =>
                  go_wp2
                  go_quiet (fail)
                  go_wp2
                  go_roundg (T.length + 1 - (d + 1))
                  case rel => exact ⟨d + 1, by omega, by omega, rfl, by go_num, by rw [hts'.out]; rfl, q2 + nq, rfl⟩
                  case measure => rw [hgk3'.out]; omega
                | false =>
                  by_cases hyx : ((y1, y2, y3, y4) : Pg) = (x1, x2, x3, x4)
                  · have hts2 : thr L2 (x1, x2, x3, x4) (d + 1) = true := by rw [hts'.out, hyx]; simp
                    have hts2' := Lib.hid hts2
                    simp only [Prod.mk.injEq] at hyx
                    obtain ⟨rfl, rfl, rfl, rfl⟩ := hyx
                    clear hts2
                    go_wp2
                    go_quiet (fail)
                    go_wp2
                    go_roundg (T.length + 1 - (d + 1))
                    case rel => exact ⟨d + 1, by omega, by omega, rfl, by go_num, by rw [hts2'.out], q2 + nq, rfl⟩
                    case measure => rw [hgk3'.out]; omega
                  · have hts2 : thr L2 (x1, x2, x3, x4) (d + 1) = false := by rw [hts'.out, decide_eq_false hyx]; rfl
                    have hts2' := Lib.hid hts2
                    have key := pg_ne hyx
                    clear hyx hts2
                    rcases key with e1 | ⟨rfl, e2 | ⟨rfl, e3 | ⟨rfl, e4⟩⟩⟩
                    · have e1' : (y1 == x1) = false := by simpa using e1
                      clear e1
                      go_wp2
                      go_quiet (fail)
                      go_wp2
                      go_roundg (T.length + 1 - (d + 1))
                      case rel => exact ⟨d + 1, by omega, by omega, rfl, by go_num, by rw [hts2'.out], q2 + nq, rfl⟩
                      case measure => rw [hgk3'.out]; omega
                    · have e1' : (y2 == x2) = false := by simpa using e2
                      clear e2
                      go_wp2
                      go_quiet (fail)
                      go_wp2
                      go_roundg (T.length + 1 - (d + 1))
                      case rel => exact ⟨d + 1, by omega, by omega, rfl, by go_num, by rw [hts2'.out], q2 + nq, rfl⟩
                      case measure => rw [hgk3'.out]; omega
                    · have e1' : (y3.toList == x3.toList) = false := (bytes_beq_false_iff y3 x3).2 e3
                      clear e3
                      go_wp2
                      go_quiet (fail)
                      go_wp2
                      go_roundg (T.length + 1 - (d + 1))
                      case rel => exact ⟨d + 1, by omega, by omega, rfl, by go_num, by rw [hts2'.out], q2 + nq, rfl⟩
                      case measure => rw [hgk3'.out]; omega
                    · have e1' : (y4 == x4) = false := by simpa using e4
                      clear e4
                      go_wp2
                      go_quiet (fail)
                      go_wp2
                      go_roundg (T.length + 1 - (d + 1))
                      case rel => exact ⟨d + 1, by omega, by omega, rfl, by go_num, by rw [hts2'.out], q2 + nq, rfl⟩
                      case measure => rw [hgk3'.out]; omega
              · have he : d = T.length + 1 := by omega
                subst he
                have hta : thr L2 (x1, x2, x3, x4) (T.length + 1) = inL T (x1, x2, x3, x4) := by
                  rw [hL2'.out]; exact thr_all _ _ _
                rw [hta]
                clear hta
                cases hin : inL T (x1, x2, x3, x4) with
                | true =>
                  have hst2 : gc P T i = c := by rw [hst'.out, hin]; rfl
                  have hst2' := Lib.hid hst2
                  clear hin hst2
                  go_wp2
                  go_roundg i
                  case rel => exact ⟨(i : Int) - 1, by omega, by omega, by omega, rfl, by rw [show ((i : Int) - 1 + 1).toNat = i from by omega, hst2'.out], q2, rfl⟩
                  case measure => rw [hgk2'.out]; omega
                | false =>
                  have hst2 : gc P T i = c + 1 := by rw [hst'.out, hin]; rfl
                  have hst2' := Lib.hid hst2
                  obtain ⟨rfl, hrest⟩ := hfx'.out (inL_not.1 hin)
                  have hrest' := Lib.hid hrest
                  clear hin hst2 hrest
                  have hcb : (c : Int) ≤ 64 := by omega
                  by_cases hxp : x1 = p1
                  · have hxp' : (x1 != p1) = false := by simpa using hxp
                    clear hxp
                    go_wp2
                    go_loopg [17] (P.length - (i + 1)) (fun gk4 mv wi => ∃ m4 : Nat, i < m4 ∧ m4 ≤ P.length ∧ gk4 = P.length - m4 ∧ mv = .int .i64 m4 ∧ ∃ q3, wi = w7.drewN q3)
                    case atStart => exact ⟨i + 1, by omega, by omega, rfl, by go_num, q2, rfl⟩
                    case round =>
                      obtain ⟨m4, hm1, hm2, hgk4, rfl, q3, rfl⟩ := hrel
                      by_cases hm3 : m4 < P.length
                      · have hm3' : decide ((m4 : Int) < P.length) = true := by simpa using hm3
                        go_wp2
                        go_quiet (fail)
                        go_wp2
                        go_roundg i
                        case rel => exact ⟨(i : Int) - 1, by omega, by omega, by omega, rfl, by rw [show ((i : Int) - 1 + 1).toNat = i from by omega, hst2'.out]; go_num, q3 + nq, rfl⟩
                        case measure => rw [hgk2'.out]; omega
                      · have hm3' : decide ((m4 : Int) < P.length) = false := by simpa using hm3
                        go_wp2
                        go_quiet (fail)
                        go_wp2
                        go_roundg i
                        case rel => exact ⟨(i : Int) - 1, by omega, by omega, by omega, rfl, by rw [show ((i : Int) - 1 + 1).toNat = i from by omega, hst2'.out]; go_num, q3 + nq, rfl⟩
                        case measure => rw [hgk2'.out]; omega
                  · have hxp' : (x1 != p1) = true := by simpa using hxp
                    have hall : ∀ (m : Nat) (y : Pg), i < m → P[m]? = some y → y.2.2.2 ≠ 0 := by
                      rcases hrest'.out with h | h
                      · exact absurd h hxp
                      · exact h
                    have hall' := Lib.hid hall
                    clear hall hxp
                    go_wp2
                    go_loopg [17] (P.length - (i + 1)) (fun gk4 mv wi => ∃ m4 : Nat, i < m4 ∧ m4 ≤ P.length ∧ gk4 = P.length - m4 ∧ mv = .int .i64 m4 ∧ ∃ q3, wi = w7.drewN q3)
                    case atStart => exact ⟨i + 1, by omega, by omega, rfl, by go_num, q2, rfl⟩
                    case round =>
                      obtain ⟨m4, hm1, hm2, hgk4, rfl, q3, rfl⟩ := hrel
                      have hgk4' := Lib.hid hgk4; clear hgk4
                      by_cases hm3 : m4 < P.length
                      · have hm3' : decide ((m4 : Int) < P.length) = true := by simpa using hm3
                        obtain ⟨y, hy⟩ : ∃ y, P[m4]? = some y := ⟨_, List.getElem?_eq_getElem hm3⟩
                        have s3 := hcP'.out m4 y 3 _ hy rfl
                        rw [← Nat.add_assoc] at s3
                        have hy0 : (y.2.2.2 == 0) = false := by
                          have := hall'.out m4 y hm1 hy
                          simpa using this
                        obtain ⟨y1, y2, y3, y4⟩ := y
                        dsimp only at s3 hy0
                        have ls := lt_of_cell s3
                        clear hy
                        go_wp2
                        go_quiet (fail)
                        go_wp2
                        go_roundg (P.length - (m4 + 1))
                        case rel => exact ⟨m4 + 1, by omega, by omega, rfl, by go_num, q3 + nq, rfl⟩
                        case measure => rw [hgk4'.out]; omega
                      · have hm3' : decide ((m4 : Int) < P.length) = false := by simpa using hm3
                        go_wp2
                        go_quiet (fail)
                        go_wp2
                        go_roundg i
                        case rel => exact ⟨(i : Int) - 1, by omega, by omega, by omega, rfl, by rw [show ((i : Int) - 1 + 1).toNat = i from by omega, hst2'.out]; go_num, q3 + nq, rfl⟩
                        case measure => rw [hgk2'.out]; omega
end Go.Proofs.Ytafeemlojlngfaa
