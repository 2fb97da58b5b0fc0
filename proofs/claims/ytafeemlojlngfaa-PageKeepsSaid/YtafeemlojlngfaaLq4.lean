/- The law's pages: does (Dirty), any step; heavy. -/
import Derived.Test.YtafeemlojlngfaaLq3
namespace Go.Proofs.Ytafeemlojlngfaa
open Go.RowKit Go.Maps Go.Lib Go.Sort
theorem bdirty {w : World} {B M cb bm rg rb n : Nat} {P : List Pg} (h : Both w B M cb bm rg rb n P) (r1 r2 : Int) :
    Calls Try.prog 23 #[.pointer (some ⟨cb, 0, none⟩), .agg #[.int .i64 r1, .int .i64 r2]] w fun e w' => ∃ v, e = .returned v ∧ Fr [] w w' ∧ SliceIs w' (w.heap.size ≤ ·) encPg v (dirtyP P r1 r2) := by
  obtain ⟨Q, rfl, h2, _⟩ := h
  exact dirty_any h2 r1 r2
set_option maxRecDepth 100000 in
set_option maxHeartbeats 4000000 in
theorem does5 {w : World} {B M cb bm rg rb n : Nat} {P : List Pg} (h : Both w B M cb bm rg rb n P) (_ : B ≤ M) (hM : M ≤ w.heap.size) (p1 p2 : Int) (p3 : ByteArray) (p4 r1 r2 : Int) :
    Calls Try.prog 12 #[.pointer (some ⟨cb, 0, none⟩), .pointer (some ⟨rb, 0, none⟩), .agg #[.int .i64 5, .int .i64 p1, .int .i64 p2, .string p3, .int .i64 p4, .int .i64 r1, .int .i64 r2]] w (DoesOut B cb bm rg rb n P w) := by
  obtain ⟨W, hWe⟩ : ∃ W, W = (w.alloc (.cells #[.int .i64 5, .int .i64 p1, .int .i64 p2, .string p3, .int .i64 p4, .int .i64 r1, .int .i64 r2] 35)).alloc (.cells #[.int .i64 p1, .int .i64 p2, .string p3, .int .i64 p4] 56) := ⟨_, rfl⟩
  have hfW : Fr [] w W := by rw [hWe]; exact ((Fr.refl _ _).alloc _).alloc _
  have hzW : W.heap.size = w.heap.size + 2 := by rw [hWe]; simp
  have hbo : W.heap[w.heap.size]? = some (.cells #[.int .i64 5, .int .i64 p1, .int .i64 p2, .string p3, .int .i64 p4, .int .i64 r1, .int .i64 r2] 35 (0, 0)) := by rw [hWe]; exact (Fr.refl [] _).alloc _ |>.keep (heap_alloc_new w _) (by simp)
  have hpg : W.heap[w.heap.size + 1]? = some (.cells #[.int .i64 p1, .int .i64 p2, .string p3, .int .i64 p4] 56 (0, 0)) := by
    rw [hWe]
    have := heap_alloc_new (w.alloc (.cells #[.int .i64 5, .int .i64 p1, .int .i64 p2, .string p3, .int .i64 p4, .int .i64 r1, .int .i64 r2] 35)) (.cells #[.int .i64 p1, .int .i64 p2, .string p3, .int .i64 p4] 56)
    simpa using this
  have hB := h.fr0 hfW
  have hfew := h.few
  have hnd := h.nodup
  have hrb := h.rb
  have hrB : B ≤ rb := by obtain ⟨Q, h1, h2, h3, h4⟩ := h; exact (h4 rb (by simp)).1
  have hcb := h.cb
  have hMW : M ≤ W.heap.size := by omega
  have hfew' := Lib.hid hfew; have hnd' := Lib.hid hnd; have hB' := Lib.hid hB
  clear hfew hnd hB h
  have hDl : (dirtyP P r1 r2).length < 1000000 := by have := dirtyP_len P r1 r2; have := hfew'.out; omega
  have c1 : ∀ X, Fr [] W X → _ := fun X hX => bdirty (hB'.out.fr0 hX) r1 r2
  have c1' := Lib.hid c1
  have c2 : ∀ X, Fr [] W X → _ := fun X hX => rdirty_any (hB'.out.fr0 hX).ref (by have := hfew'.out; omega) r1 r2
  have c2' := Lib.hid c2
  obtain ⟨D, hD⟩ : ∃ D, D = dirtyP P r1 r2 := ⟨_, rfl⟩
  rw [← hD] at c1' c2' hDl
  have hbo' := Lib.hid hbo; have hpg' := Lib.hid hpg; have hzW' := Lib.hid hzW
  clear c1 c2 hbo hpg hD hzW
  go_enter Try.func12, Try.ntmps12
  go_wp2
  rw [← hWe]
  clear hWe
  have b0 := (show W.cell? ⟨w.heap.size, 0, none⟩ = some (.int .i64 5) from cell_at hbo'.out)
  have b1 := (show W.cell? ⟨w.heap.size, 1, none⟩ = some (.int .i64 p1) from cell_at hbo'.out)
  have b2 := (show W.cell? ⟨w.heap.size, 2, none⟩ = some (.int .i64 p2) from cell_at hbo'.out)
  have b3 := (show W.cell? ⟨w.heap.size, 3, none⟩ = some (.string p3) from cell_at hbo'.out)
  have b4 := (show W.cell? ⟨w.heap.size, 4, none⟩ = some (.int .i64 p4) from cell_at hbo'.out)
  have b5 := (show W.cell? ⟨w.heap.size, 5, none⟩ = some (.int .i64 r1) from cell_at hbo'.out)
  have b6 := (show W.cell? ⟨w.heap.size, 6, none⟩ = some (.int .i64 r2) from cell_at hbo'.out)
  have lb := lt_of_cell b0
  go_region_held3 (fun w' => w'.cell? ⟨w.heap.size, 5, none⟩ = some (.int .i64 r1) ∧ w'.cell? ⟨w.heap.size, 6, none⟩ = some (.int .i64 r2)) (go_keep) (first | (go_at_call 23; refine (c1'.out _ (Fr.refl _ _).drew).mono ?_; rintro e w1 ⟨v, rfl, hf1, hs1⟩; have hF1 : Fr [] W w1 := (Fr.refl _ _).drew.trans hf1; have c3 := theirs_any v D w1 hs1 hDl; have hq1 := hF1.keep hbo'.out (by simp); have f51 := (show w1.cell? ⟨w.heap.size, 5, none⟩ = some (.int .i64 r1) from cell_at hq1); have f61 := (show w1.cell? ⟨w.heap.size, 6, none⟩ = some (.int .i64 r2) from cell_at hq1); have lf1 := lt_of_cell f51; clear hq1) | (go_at_call 14; refine c3.mono ?_; rintro e w2 ⟨v2, rfl, hf2, hs2⟩; have hF2 := hF1.trans hf2; have hq2 := hF2.keep hbo'.out (by simp); have f52 := (show w2.cell? ⟨w.heap.size, 5, none⟩ = some (.int .i64 r1) from cell_at hq2); have f62 := (show w2.cell? ⟨w.heap.size, 6, none⟩ = some (.int .i64 r2) from cell_at hq2); have lf2 := lt_of_cell f52; clear hq2; have c4 := c2'.out _ hF2) | (go_at_call 29; refine c4.mono ?_; rintro e w3 ⟨v3, rfl, hf3, hs3⟩; have hF3 := hF2.trans hf3; have hq3 := hF3.keep hbo'.out (by simp); have f53 := (show w3.cell? ⟨w.heap.size, 5, none⟩ = some (.int .i64 r1) from cell_at hq3); have f63 := (show w3.cell? ⟨w.heap.size, 6, none⟩ = some (.int .i64 r2) from cell_at hq3); have lf3 := lt_of_cell f53; clear hq3; have c5 := same_any v2 v3 D D w3 (hs2.fr hf3 (by simp)) hs3 hDl) | (go_at_call 13; refine c5.mono ?_; rintro e w4 ⟨rfl, hf4⟩; have hF4 := hF3.trans hf4; have hq4 := hF4.keep hbo'.out (by simp); have f54 := (show w4.cell? ⟨w.heap.size, 5, none⟩ = some (.int .i64 r1) from cell_at hq4); have f64 := (show w4.cell? ⟨w.heap.size, 6, none⟩ = some (.int .i64 r2) from cell_at hq4); have lf4 := lt_of_cell f54; clear hq4))
  all_goals
    go_wp2
    go_ret
    exact ⟨by simp, (hB'.out.fr0 hF4).grow (by have := hF4.size; omega), FrB.of0 (hfW.trans hF4)⟩
abbrev St := Int × Pg × Int × Int
def encSt (o : St) : List Value := [.int .i64 o.1, .int .i64 o.2.1.1, .int .i64 o.2.1.2.1, .string o.2.1.2.2.1, .int .i64 o.2.1.2.2.2, .int .i64 o.2.2.1, .int .i64 o.2.2.2]
theorem encSt_len (o : St) : (encSt o).length = 7 := rfl
def aggSt (o : St) : Value := .agg #[.int .i64 o.1, .int .i64 o.2.1.1, .int .i64 o.2.1.2.1, .string o.2.1.2.2.1, .int .i64 o.2.1.2.2.2, .int .i64 o.2.2.1, .int .i64 o.2.2.2]
/-- What a step makes of the pages. -/
def stepP (n : Nat) (P : List Pg) (o : St) : List Pg :=
  if o.1 = 0 then (getP P o.2.1.1).2 else if o.1 = 1 then (fillP n P o.2.1).2 else if o.1 = 2 then (setP n P o.2.1).2 else if o.1 = 3 then (cleanP P o.2.1.1 o.2.1.2.1).2 else if o.1 = 4 then (dropP P o.2.2.1 o.2.2.2).2 else P
theorem does_any {w : World} {B M cb bm rg rb n : Nat} {P : List Pg} (h : Both w B M cb bm rg rb n P) (hw : B ≤ M) (hM : M ≤ w.heap.size) (o : St) :
    Calls Try.prog 12 #[.pointer (some ⟨cb, 0, none⟩), .pointer (some ⟨rb, 0, none⟩), aggSt o] w (DoesOut B cb bm rg rb n (stepP n P o) w) := by
  obtain ⟨k, ⟨p1, p2, p3, p4⟩, r1, r2⟩ := o
  unfold stepP aggSt
  dsimp only
  by_cases k0 : k = 0
  · subst k0; rw [if_pos rfl]; exact does0 h hw hM p1 p2 p3 p4 r1 r2
  rw [if_neg k0]
  by_cases k1 : k = 1
  · subst k1; rw [if_pos rfl]; exact does1 h hw hM p1 p2 p3 p4 r1 r2
  rw [if_neg k1]
  by_cases k2 : k = 2
  · subst k2; rw [if_pos rfl]; exact does2 h hw hM p1 p2 p3 p4 r1 r2
  rw [if_neg k2]
  by_cases k3 : k = 3
  · subst k3; rw [if_pos rfl]; exact does3 h hw hM p1 p2 p3 p4 r1 r2
  rw [if_neg k3]
  by_cases k4 : k = 4
  · subst k4; rw [if_pos rfl]; exact does4 h hw hM p1 p2 p3 p4 r1 r2
  rw [if_neg k4]
  by_cases k5 : k = 5
  · subst k5; exact does5 h hw hM p1 p2 p3 p4 r1 r2
  exact does_other k0 k1 k2 k3 k4 k5 h hw hM p1 p2 p3 p4 r1 r2
/-- The bound of the document. -/
def heavyS (S : List St) : Bool := decide (150 < S.length) || S.any fun o => decide (100 < o.2.1.2.2.1.size)
set_option maxRecDepth 100000 in
set_option maxHeartbeats 1000000 in
theorem heavy_any {B : Nat → Prop} (v : Value) (S : List St) (w : World) (h : SliceIs w B encSt v S) : Calls Try.prog 8 #[v] w fun e w' => e = .returned (.bool (heavyS S)) ∧ w' = w := by
  obtain ⟨a, cap, rfl, hc1, hc2, hat⟩ := h.at encSt_len
  have hat' := Lib.hid hat; clear hat h
  by_cases hl : 150 < S.length
  · have hv : heavyS S = true := by unfold heavyS; rw [decide_eq_true hl]; rfl
    rw [hv]
    go_enter Try.func8, Try.ntmps8
    go_wp2
    go_ret
    exact ⟨rfl, rfl⟩
  · have hv : heavyS S = S.any fun o => decide (100 < o.2.1.2.2.1.size) := by unfold heavyS; rw [decide_eq_false hl]; rfl
    rw [hv]
    clear hv
    obtain ⟨b, hb⟩ : ∃ b, b = S.any fun o => decide (100 < o.2.1.2.2.1.size) := ⟨_, rfl⟩
    rw [← hb]
    have hb' := Lib.hid hb; clear hb
    go_enter Try.func8, Try.ntmps8
    go_wp2
    go_loopg [3] S.length (fun gk iv wr => ∃ i : Nat, i ≤ S.length ∧ gk = S.length - i ∧ iv = .int .i64 i ∧ (S.take i).any (fun o => decide (100 < o.2.1.2.2.1.size)) = false ∧ wr = w)
    case atStart => exact ⟨0, Nat.zero_le _, rfl, rfl, rfl, rfl⟩
    case round =>
      obtain ⟨i, hi, hgk, rfl, hno, hwe⟩ := hrel
      have hwe := hwe.symm
      subst hwe
      have hgk' := Lib.hid hgk; have hno' := Lib.hid hno
      clear hgk hno
      by_cases hlt : i < S.length
      · obtain ⟨g, off, rfl, _, hg2, hcells⟩ := hat'.out (by rintro rfl; simp at hlt)
        obtain ⟨x, hx⟩ : ∃ x, S[i]? = some x := ⟨_, List.getElem?_eq_getElem hlt⟩
        have k3 := hcells i x 3 _ hx rfl
        rw [← Nat.add_assoc] at k3
        obtain ⟨x0, ⟨x1, x2, x3, x4⟩, x5, x6⟩ := x
        dsimp only at k3
        have hx' := Lib.hid hx
        clear hcells hx
        by_cases hz : 100 < x3.size
        · have hy := Lib.hid (any_of_at (p := fun o : St => decide (100 < o.2.1.2.2.1.size)) hx'.out (by simpa using hz))
          go_wp2
          go_ret
          exact ⟨by rw [hb'.out, hy.out]; rfl, rfl⟩
        · have hy := Lib.hid (any_take_succ (p := fun o : St => decide (100 < o.2.1.2.2.1.size)) hx'.out hno'.out (by simpa using hz))
          go_wp2
          go_roundg (S.length - (i + 1))
          case rel => exact ⟨i + 1, by omega, rfl, by go_num, hy.out, rfl⟩
          case measure => rw [hgk'.out]; omega
      · have he : i = S.length := by omega
        subst he
        have hno2 := hno'.out
        rw [List.take_length] at hno2
        have hno3 := Lib.hid hno2; clear hno2
        go_wp2
        go_ret
        exact ⟨by rw [hb'.out, hno3.out]; rfl, rfl⟩
end Go.Proofs.Ytafeemlojlngfaa
