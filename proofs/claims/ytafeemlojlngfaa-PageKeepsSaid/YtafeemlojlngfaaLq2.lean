/- The law's pages: does (Fill, Set). -/
import Derived.Test.YtafeemlojlngfaaLq1
namespace Go.Proofs.Ytafeemlojlngfaa
open Go.RowKit Go.Maps Go.Lib Go.Sort
def DoesOut (B cb bm rg rb n : Nat) (P : List Pg) (w : World) (e : Ending) (w' : World) : Prop := e = .returned (.bool true) ∧ Both w' B w'.heap.size cb bm rg rb n P ∧ FrB B w.heap.size w w'
theorem Both.grow' {w : World} {B M M' cb bm rg rb n : Nat} {P : List Pg} (h : Both w B M cb bm rg rb n P) (hM : M ≤ M') : Both w B M' cb bm rg rb n P := h.grow hM
set_option maxRecDepth 100000 in
set_option maxHeartbeats 4000000 in
theorem does1 {w : World} {B M cb bm rg rb n : Nat} {P : List Pg} (h : Both w B M cb bm rg rb n P) (hw : B ≤ M) (hM : M ≤ w.heap.size) (p1 p2 : Int) (p3 : ByteArray) (p4 r1 r2 : Int) :
    Calls Try.prog 12 #[.pointer (some ⟨cb, 0, none⟩), .pointer (some ⟨rb, 0, none⟩), .agg #[.int .i64 1, .int .i64 p1, .int .i64 p2, .string p3, .int .i64 p4, .int .i64 r1, .int .i64 r2]] w (DoesOut B cb bm rg rb n (fillP n P (p1, p2, p3, p4)).2 w) := by
  obtain ⟨W, hWe⟩ : ∃ W, W = (w.alloc (.cells #[.int .i64 1, .int .i64 p1, .int .i64 p2, .string p3, .int .i64 p4, .int .i64 r1, .int .i64 r2] 35)).alloc (.cells #[.int .i64 p1, .int .i64 p2, .string p3, .int .i64 p4] 56) := ⟨_, rfl⟩
  have hfW : Fr [] w W := by rw [hWe]; exact ((Fr.refl _ _).alloc _).alloc _
  have hzW : W.heap.size = w.heap.size + 2 := by rw [hWe]; simp
  have hbo : W.heap[w.heap.size]? = some (.cells #[.int .i64 1, .int .i64 p1, .int .i64 p2, .string p3, .int .i64 p4, .int .i64 r1, .int .i64 r2] 35 (0, 0)) := by rw [hWe]; exact (Fr.refl [] _).alloc _ |>.keep (heap_alloc_new w _) (by simp)
  have hpg : W.heap[w.heap.size + 1]? = some (.cells #[.int .i64 p1, .int .i64 p2, .string p3, .int .i64 p4] 56 (0, 0)) := by
    rw [hWe]
    have := heap_alloc_new (w.alloc (.cells #[.int .i64 1, .int .i64 p1, .int .i64 p2, .string p3, .int .i64 p4, .int .i64 r1, .int .i64 r2] 35)) (.cells #[.int .i64 p1, .int .i64 p2, .string p3, .int .i64 p4] 56)
    simpa using this
  have hB := h.fr0 hfW
  have hfew := h.few
  have hnd := h.nodup
  have hrb := h.rb
  have hrB : B ≤ rb := by obtain ⟨Q, h1, h2, h3, h4⟩ := h; exact (h4 rb (by simp)).1
  have hcb := h.cb
  have hMW : M ≤ W.heap.size := by omega
  have hfew' := Lib.hid hfew; have hnd' := Lib.hid hnd; have hB' := Lib.hid hB
  clear hfew hnd hB h
  have c1 : ∀ X, Fr [] W X → _ := fun X hX => bfill (hB'.out.fr0 hX) hw (Nat.le_trans hMW hX.size) (p1, p2, p3, p4)
  have c1' := Lib.hid c1
  have c2 : ∀ X, RefC X rb n P → _ := fun X hX => rfill_any hX (by have := hfew'.out; omega) hnd'.out (p1, p2, p3, p4)
  have c2' := Lib.hid c2
  unfold aggPg at c1' c2'
  dsimp only at c1' c2'
  obtain ⟨r, hr⟩ : ∃ r, r = fillP n P (p1, p2, p3, p4) := ⟨_, rfl⟩
  rw [← hr] at c1' c2' ⊢
  have hbo' := Lib.hid hbo; have hpg' := Lib.hid hpg; have hzW' := Lib.hid hzW
  clear c1 c2 hbo hpg hr hzW
  go_enter Try.func12, Try.ntmps12
  go_wp2
  rw [← hWe]
  clear hWe
  have b0 := (show W.cell? ⟨w.heap.size, 0, none⟩ = some (.int .i64 1) from cell_at hbo'.out)
  have b1 := (show W.cell? ⟨w.heap.size, 1, none⟩ = some (.int .i64 p1) from cell_at hbo'.out)
  have b2 := (show W.cell? ⟨w.heap.size, 2, none⟩ = some (.int .i64 p2) from cell_at hbo'.out)
  have b3 := (show W.cell? ⟨w.heap.size, 3, none⟩ = some (.string p3) from cell_at hbo'.out)
  have b4 := (show W.cell? ⟨w.heap.size, 4, none⟩ = some (.int .i64 p4) from cell_at hbo'.out)
  have b5 := (show W.cell? ⟨w.heap.size, 5, none⟩ = some (.int .i64 r1) from cell_at hbo'.out)
  have b6 := (show W.cell? ⟨w.heap.size, 6, none⟩ = some (.int .i64 r2) from cell_at hbo'.out)
  have g0 := (show W.cell? ⟨w.heap.size + 1, 0, none⟩ = some (.int .i64 p1) from cell_at hpg'.out)
  have g1 := (show W.cell? ⟨w.heap.size + 1, 1, none⟩ = some (.int .i64 p2) from cell_at hpg'.out)
  have g2 := (show W.cell? ⟨w.heap.size + 1, 2, none⟩ = some (.string p3) from cell_at hpg'.out)
  have g3 := (show W.cell? ⟨w.heap.size + 1, 3, none⟩ = some (.int .i64 p4) from cell_at hpg'.out)
  have lb := lt_of_cell b0
  have lg := lt_of_cell g0
  go_region_with (first | (go_at_call 19; refine (c1'.out _ (Fr.refl _ _).drew).mono ?_; rintro e w1 ⟨rfl, hh, hfb⟩; have hq := hfb.keep (a := W.drew) hpg'.out (by omega); have f0 := (show w1.cell? ⟨w.heap.size + 1, 0, none⟩ = some (.int .i64 p1) from cell_at hq); have f1 := (show w1.cell? ⟨w.heap.size + 1, 1, none⟩ = some (.int .i64 p2) from cell_at hq); have f2 := (show w1.cell? ⟨w.heap.size + 1, 2, none⟩ = some (.string p3) from cell_at hq); have f3 := (show w1.cell? ⟨w.heap.size + 1, 3, none⟩ = some (.int .i64 p4) from cell_at hq); have lf := lt_of_cell f0; have c3 := c2'.out _ hh.ref; clear hq) | (go_at_call 25; refine c3.mono ?_; rintro e w2 ⟨rfl, hf2, hR2⟩))
  all_goals
    go_wp2
    go_ret
    have hF1 : FrB B w.heap.size w w1 := (FrB.of0 (hfW.drew)).trans (hfb.mono hM)
    have hF2 : FrB B w.heap.size w1 w2 := FrB.of hf2 (by simp; omega)
    exact ⟨rfl, ((hh.after hf2 hR2).grow' hf2.size), hF1.trans hF2⟩
set_option maxRecDepth 100000 in
set_option maxHeartbeats 4000000 in
theorem does2 {w : World} {B M cb bm rg rb n : Nat} {P : List Pg} (h : Both w B M cb bm rg rb n P) (hw : B ≤ M) (hM : M ≤ w.heap.size) (p1 p2 : Int) (p3 : ByteArray) (p4 r1 r2 : Int) :
    Calls Try.prog 12 #[.pointer (some ⟨cb, 0, none⟩), .pointer (some ⟨rb, 0, none⟩), .agg #[.int .i64 2, .int .i64 p1, .int .i64 p2, .string p3, .int .i64 p4, .int .i64 r1, .int .i64 r2]] w (DoesOut B cb bm rg rb n (setP n P (p1, p2, p3, p4)).2 w) := by
  obtain ⟨W, hWe⟩ : ∃ W, W = (w.alloc (.cells #[.int .i64 2, .int .i64 p1, .int .i64 p2, .string p3, .int .i64 p4, .int .i64 r1, .int .i64 r2] 35)).alloc (.cells #[.int .i64 p1, .int .i64 p2, .string p3, .int .i64 p4] 56) := ⟨_, rfl⟩
  have hfW : Fr [] w W := by rw [hWe]; exact ((Fr.refl _ _).alloc _).alloc _
  have hzW : W.heap.size = w.heap.size + 2 := by rw [hWe]; simp
  have hbo : W.heap[w.heap.size]? = some (.cells #[.int .i64 2, .int .i64 p1, .int .i64 p2, .string p3, .int .i64 p4, .int .i64 r1, .int .i64 r2] 35 (0, 0)) := by rw [hWe]; exact (Fr.refl [] _).alloc _ |>.keep (heap_alloc_new w _) (by simp)
  have hpg : W.heap[w.heap.size + 1]? = some (.cells #[.int .i64 p1, .int .i64 p2, .string p3, .int .i64 p4] 56 (0, 0)) := by
    rw [hWe]
    have := heap_alloc_new (w.alloc (.cells #[.int .i64 2, .int .i64 p1, .int .i64 p2, .string p3, .int .i64 p4, .int .i64 r1, .int .i64 r2] 35)) (.cells #[.int .i64 p1, .int .i64 p2, .string p3, .int .i64 p4] 56)
    simpa using this
  have hB := h.fr0 hfW
  have hfew := h.few
  have hnd := h.nodup
  have hrb := h.rb
  have hrB : B ≤ rb := by obtain ⟨Q, h1, h2, h3, h4⟩ := h; exact (h4 rb (by simp)).1
  have hcb := h.cb
  have hMW : M ≤ W.heap.size := by omega
  have hfew' := Lib.hid hfew; have hnd' := Lib.hid hnd; have hB' := Lib.hid hB
  clear hfew hnd hB h
  have c1 : ∀ X, Fr [] W X → _ := fun X hX => bset (hB'.out.fr0 hX) hw (Nat.le_trans hMW hX.size) (p1, p2, p3, p4)
  have c1' := Lib.hid c1
  have c2 : ∀ X, RefC X rb n P → _ := fun X hX => rset_any hX (by have := hfew'.out; omega) hnd'.out (p1, p2, p3, p4)
  have c2' := Lib.hid c2
  unfold aggPg at c1' c2'
  dsimp only at c1' c2'
  obtain ⟨r, hr⟩ : ∃ r, r = setP n P (p1, p2, p3, p4) := ⟨_, rfl⟩
  rw [← hr] at c1' c2' ⊢
  have hbo' := Lib.hid hbo; have hpg' := Lib.hid hpg; have hzW' := Lib.hid hzW
  clear c1 c2 hbo hpg hr hzW
  go_enter Try.func12, Try.ntmps12
  go_wp2
  rw [← hWe]
  clear hWe
  have b0 := (show W.cell? ⟨w.heap.size, 0, none⟩ = some (.int .i64 2) from cell_at hbo'.out)
  have b1 := (show W.cell? ⟨w.heap.size, 1, none⟩ = some (.int .i64 p1) from cell_at hbo'.out)
  have b2 := (show W.cell? ⟨w.heap.size, 2, none⟩ = some (.int .i64 p2) from cell_at hbo'.out)
  have b3 := (show W.cell? ⟨w.heap.size, 3, none⟩ = some (.string p3) from cell_at hbo'.out)
  have b4 := (show W.cell? ⟨w.heap.size, 4, none⟩ = some (.int .i64 p4) from cell_at hbo'.out)
  have b5 := (show W.cell? ⟨w.heap.size, 5, none⟩ = some (.int .i64 r1) from cell_at hbo'.out)
  have b6 := (show W.cell? ⟨w.heap.size, 6, none⟩ = some (.int .i64 r2) from cell_at hbo'.out)
  have g0 := (show W.cell? ⟨w.heap.size + 1, 0, none⟩ = some (.int .i64 p1) from cell_at hpg'.out)
  have g1 := (show W.cell? ⟨w.heap.size + 1, 1, none⟩ = some (.int .i64 p2) from cell_at hpg'.out)
  have g2 := (show W.cell? ⟨w.heap.size + 1, 2, none⟩ = some (.string p3) from cell_at hpg'.out)
  have g3 := (show W.cell? ⟨w.heap.size + 1, 3, none⟩ = some (.int .i64 p4) from cell_at hpg'.out)
  have lb := lt_of_cell b0
  have lg := lt_of_cell g0
  go_region_with (first | (go_at_call 20; refine (c1'.out _ (Fr.refl _ _).drew).mono ?_; rintro e w1 ⟨rfl, hh, hfb⟩; have hq := hfb.keep (a := W.drew) hpg'.out (by omega); have f0 := (show w1.cell? ⟨w.heap.size + 1, 0, none⟩ = some (.int .i64 p1) from cell_at hq); have f1 := (show w1.cell? ⟨w.heap.size + 1, 1, none⟩ = some (.int .i64 p2) from cell_at hq); have f2 := (show w1.cell? ⟨w.heap.size + 1, 2, none⟩ = some (.string p3) from cell_at hq); have f3 := (show w1.cell? ⟨w.heap.size + 1, 3, none⟩ = some (.int .i64 p4) from cell_at hq); have lf := lt_of_cell f0; have c3 := c2'.out _ hh.ref; clear hq) | (go_at_call 26; refine c3.mono ?_; rintro e w2 ⟨rfl, hf2, hR2⟩))
  all_goals
    go_wp2
    go_ret
    have hF1 : FrB B w.heap.size w w1 := (FrB.of0 (hfW.drew)).trans (hfb.mono hM)
    have hF2 : FrB B w.heap.size w1 w2 := FrB.of hf2 (by simp; omega)
    exact ⟨rfl, ((hh.after hf2 hR2).grow' hf2.size), hF1.trans hF2⟩
end Go.Proofs.Ytafeemlojlngfaa
