/- The law's pages: does (Get, Clean, Drop, other kinds). -/
import Derived.Test.YtafeemlojlngfaaLq2
namespace Go.Proofs.Ytafeemlojlngfaa
open Go.RowKit Go.Maps Go.Lib Go.Sort
set_option maxRecDepth 100000 in
set_option maxHeartbeats 4000000 in
theorem does3 {w : World} {B M cb bm rg rb n : Nat} {P : List Pg} (h : Both w B M cb bm rg rb n P) (hw : B ≤ M) (hM : M ≤ w.heap.size) (p1 p2 : Int) (p3 : ByteArray) (p4 r1 r2 : Int) :
    Calls Try.prog 12 #[.pointer (some ⟨cb, 0, none⟩), .pointer (some ⟨rb, 0, none⟩), .agg #[.int .i64 3, .int .i64 p1, .int .i64 p2, .string p3, .int .i64 p4, .int .i64 r1, .int .i64 r2]] w (DoesOut B cb bm rg rb n (cleanP P p1 p2).2 w) := by
  obtain ⟨W, hWe⟩ : ∃ W, W = (w.alloc (.cells #[.int .i64 3, .int .i64 p1, .int .i64 p2, .string p3, .int .i64 p4, .int .i64 r1, .int .i64 r2] 35)).alloc (.cells #[.int .i64 p1, .int .i64 p2, .string p3, .int .i64 p4] 56) := ⟨_, rfl⟩
  have hfW : Fr [] w W := by rw [hWe]; exact ((Fr.refl _ _).alloc _).alloc _
  have hzW : W.heap.size = w.heap.size + 2 := by rw [hWe]; simp
  have hbo : W.heap[w.heap.size]? = some (.cells #[.int .i64 3, .int .i64 p1, .int .i64 p2, .string p3, .int .i64 p4, .int .i64 r1, .int .i64 r2] 35 (0, 0)) := by rw [hWe]; exact (Fr.refl [] _).alloc _ |>.keep (heap_alloc_new w _) (by simp)
  have hpg : W.heap[w.heap.size + 1]? = some (.cells #[.int .i64 p1, .int .i64 p2, .string p3, .int .i64 p4] 56 (0, 0)) := by
    rw [hWe]
    have := heap_alloc_new (w.alloc (.cells #[.int .i64 3, .int .i64 p1, .int .i64 p2, .string p3, .int .i64 p4, .int .i64 r1, .int .i64 r2] 35)) (.cells #[.int .i64 p1, .int .i64 p2, .string p3, .int .i64 p4] 56)
    simpa using this
  have hB := h.fr0 hfW
  have hfew := h.few
  have hnd := h.nodup
  have hrb := h.rb
  have hrB : B ≤ rb := by obtain ⟨Q, h1, h2, h3, h4⟩ := h; exact (h4 rb (by simp)).1
  have hcb := h.cb
  have hMW : M ≤ W.heap.size := by omega
  have hfew' := Lib.hid hfew; have hnd' := Lib.hid hnd; have hB' := Lib.hid hB
  clear hfew hnd hB h
  have c1 : ∀ X, Fr [] W X → _ := fun X hX => bclean (hB'.out.fr0 hX) hw (Nat.le_trans hMW hX.size) p1 p2
  have c1' := Lib.hid c1
  have c2 : ∀ X, RefC X rb n P → _ := fun X hX => rclean_any hX (by have := hfew'.out; omega) hnd'.out p1 p2
  have c2' := Lib.hid c2
  obtain ⟨r, hr⟩ : ∃ r, r = cleanP P p1 p2 := ⟨_, rfl⟩
  rw [← hr] at c1' c2' ⊢
  have hbo' := Lib.hid hbo; have hpg' := Lib.hid hpg; have hzW' := Lib.hid hzW
  clear c1 c2 hbo hpg hr hzW
  go_enter Try.func12, Try.ntmps12
  go_wp2
  rw [← hWe]
  clear hWe
  have b0 := (show W.cell? ⟨w.heap.size, 0, none⟩ = some (.int .i64 3) from cell_at hbo'.out)
  have b1 := (show W.cell? ⟨w.heap.size, 1, none⟩ = some (.int .i64 p1) from cell_at hbo'.out)
  have b2 := (show W.cell? ⟨w.heap.size, 2, none⟩ = some (.int .i64 p2) from cell_at hbo'.out)
  have b3 := (show W.cell? ⟨w.heap.size, 3, none⟩ = some (.string p3) from cell_at hbo'.out)
  have b4 := (show W.cell? ⟨w.heap.size, 4, none⟩ = some (.int .i64 p4) from cell_at hbo'.out)
  have b5 := (show W.cell? ⟨w.heap.size, 5, none⟩ = some (.int .i64 r1) from cell_at hbo'.out)
  have b6 := (show W.cell? ⟨w.heap.size, 6, none⟩ = some (.int .i64 r2) from cell_at hbo'.out)
  have g0 := (show W.cell? ⟨w.heap.size + 1, 0, none⟩ = some (.int .i64 p1) from cell_at hpg'.out)
  have g1 := (show W.cell? ⟨w.heap.size + 1, 1, none⟩ = some (.int .i64 p2) from cell_at hpg'.out)
  have g2 := (show W.cell? ⟨w.heap.size + 1, 2, none⟩ = some (.string p3) from cell_at hpg'.out)
  have g3 := (show W.cell? ⟨w.heap.size + 1, 3, none⟩ = some (.int .i64 p4) from cell_at hpg'.out)
  have lb := lt_of_cell b0
  have lg := lt_of_cell g0
  go_region_held3 (fun w' => w'.cell? ⟨w.heap.size + 1, 0, none⟩ = some (.int .i64 p1) ∧ w'.cell? ⟨w.heap.size + 1, 1, none⟩ = some (.int .i64 p2)) (go_keep) (first | (go_at_call 21; refine (c1'.out _ (Fr.refl _ _).drew).mono ?_; rintro e w1 ⟨rfl, hh, hfb⟩; have hq := hfb.keep (a := W.drew) hpg'.out (by omega); have f0 := (show w1.cell? ⟨w.heap.size + 1, 0, none⟩ = some (.int .i64 p1) from cell_at hq); have f1 := (show w1.cell? ⟨w.heap.size + 1, 1, none⟩ = some (.int .i64 p2) from cell_at hq); have f2 := (show w1.cell? ⟨w.heap.size + 1, 2, none⟩ = some (.string p3) from cell_at hq); have f3 := (show w1.cell? ⟨w.heap.size + 1, 3, none⟩ = some (.int .i64 p4) from cell_at hq); have lf := lt_of_cell f0; have c3 := c2'.out _ hh.ref; have hq' := Lib.hid hq; clear hq) | (go_at_call 27; refine c3.mono ?_; rintro e w2 ⟨rfl, hf2, hR2⟩; have hq2 := hf2.keep hq'.out (by simp; omega); have z0 := (show w2.cell? ⟨w.heap.size + 1, 0, none⟩ = some (.int .i64 p1) from cell_at hq2); have z1 := (show w2.cell? ⟨w.heap.size + 1, 1, none⟩ = some (.int .i64 p2) from cell_at hq2); clear hq2))
  all_goals
    go_wp2
    go_ret
    have hF1 : FrB B w.heap.size w w1 := (FrB.of0 (hfW.drew)).trans (hfb.mono hM)
    have hF2 : FrB B w.heap.size w1 w2 := FrB.of hf2 (by simp; omega)
    exact ⟨rfl, ((hh.after hf2 hR2).grow' hf2.size), hF1.trans hF2⟩
set_option maxRecDepth 100000 in
set_option maxHeartbeats 4000000 in
theorem does0 {w : World} {B M cb bm rg rb n : Nat} {P : List Pg} (h : Both w B M cb bm rg rb n P) (hw : B ≤ M) (hM : M ≤ w.heap.size) (p1 p2 : Int) (p3 : ByteArray) (p4 r1 r2 : Int) :
    Calls Try.prog 12 #[.pointer (some ⟨cb, 0, none⟩), .pointer (some ⟨rb, 0, none⟩), .agg #[.int .i64 0, .int .i64 p1, .int .i64 p2, .string p3, .int .i64 p4, .int .i64 r1, .int .i64 r2]] w (DoesOut B cb bm rg rb n (getP P p1).2 w) := by
  obtain ⟨W, hWe⟩ : ∃ W, W = (w.alloc (.cells #[.int .i64 0, .int .i64 p1, .int .i64 p2, .string p3, .int .i64 p4, .int .i64 r1, .int .i64 r2] 35)).alloc (.cells #[.int .i64 p1, .int .i64 p2, .string p3, .int .i64 p4] 56) := ⟨_, rfl⟩
  have hfW : Fr [] w W := by rw [hWe]; exact ((Fr.refl _ _).alloc _).alloc _
  have hzW : W.heap.size = w.heap.size + 2 := by rw [hWe]; simp
  have hbo : W.heap[w.heap.size]? = some (.cells #[.int .i64 0, .int .i64 p1, .int .i64 p2, .string p3, .int .i64 p4, .int .i64 r1, .int .i64 r2] 35 (0, 0)) := by rw [hWe]; exact (Fr.refl [] _).alloc _ |>.keep (heap_alloc_new w _) (by simp)
  have hpg : W.heap[w.heap.size + 1]? = some (.cells #[.int .i64 p1, .int .i64 p2, .string p3, .int .i64 p4] 56 (0, 0)) := by
    rw [hWe]
    have := heap_alloc_new (w.alloc (.cells #[.int .i64 0, .int .i64 p1, .int .i64 p2, .string p3, .int .i64 p4, .int .i64 r1, .int .i64 r2] 35)) (.cells #[.int .i64 p1, .int .i64 p2, .string p3, .int .i64 p4] 56)
    simpa using this
  have hB := h.fr0 hfW
  have hfew := h.few
  have hnd := h.nodup
  have hrb := h.rb
  have hrB : B ≤ rb := by obtain ⟨Q, h1, h2, h3, h4⟩ := h; exact (h4 rb (by simp)).1
  have hcb := h.cb
  have hMW : M ≤ W.heap.size := by omega
  have hfew' := Lib.hid hfew; have hnd' := Lib.hid hnd; have hB' := Lib.hid hB
  clear hfew hnd hB h
  have c1 : ∀ X, Fr [] W X → _ := fun X hX => bget (hB'.out.fr0 hX) hw (Nat.le_trans hMW hX.size) p1
  have c1' := Lib.hid c1
  have c2 : ∀ X, RefC X rb n P → _ := fun X hX => rget_any hX (by have := hfew'.out; omega) hnd'.out p1
  have c2' := Lib.hid c2
  obtain ⟨r, hr⟩ : ∃ r, r = getP P p1 := ⟨_, rfl⟩
  rw [← hr] at c1' c2' ⊢
  obtain ⟨⟨⟨x1, x2, x3, x4⟩, is⟩, P2⟩ := r
  unfold aggPg at c1' c2'
  dsimp only at c1' c2' ⊢
  have hbo' := Lib.hid hbo; have hpg' := Lib.hid hpg; have hzW' := Lib.hid hzW
  clear c1 c2 hbo hpg hr hzW
  go_enter Try.func12, Try.ntmps12
  rw [hWe] at c1' hfW
  go_wp2_with (first | (go_at_call 18; refine (c1'.out _ (Fr.refl _ _)).mono ?_; rintro e w1 ⟨rfl, hh, hfb⟩; have hq := hfb.keep (by rw [← hWe]; exact hpg'.out) (by omega); have f0 := (show w1.cell? ⟨w.heap.size + 1, 0, none⟩ = some (.int .i64 p1) from cell_at hq); have f1 := (show w1.cell? ⟨w.heap.size + 1, 1, none⟩ = some (.int .i64 p2) from cell_at hq); have f2 := (show w1.cell? ⟨w.heap.size + 1, 2, none⟩ = some (.string p3) from cell_at hq); have f3 := (show w1.cell? ⟨w.heap.size + 1, 3, none⟩ = some (.int .i64 p4) from cell_at hq); have lf := lt_of_cell f0; have hfa : Fr [] w1 (w1.alloc (.cells #[.int .i64 x1, .int .i64 x2, .string x3, .int .i64 x4] 31)) := (Fr.refl _ _).alloc _; have c3 := c2'.out _ (hh.ref.fr0 hfa); have hrb1 := hfb.size; clear hq) | (go_at_call 24; refine c3.mono ?_; rintro e w2 ⟨rfl, hf2, hR2⟩; have hq2 := hf2.keep (heap_alloc_new w1 _) (by have := hzW'.out; rw [hWe] at this; simp; omega); have k0 := (show w2.cell? ⟨w1.heap.size, 0, none⟩ = some (.int .i64 x1) from cell_at hq2); have k1 := (show w2.cell? ⟨w1.heap.size, 1, none⟩ = some (.int .i64 x2) from cell_at hq2); have k2 := (show w2.cell? ⟨w1.heap.size, 2, none⟩ = some (.string x3) from cell_at hq2); have k3 := (show w2.cell? ⟨w1.heap.size, 3, none⟩ = some (.int .i64 x4) from cell_at hq2); have lk := lt_of_cell k0; clear hq2))
  go_ret
  have hF1 : FrB B w.heap.size w w1 := (FrB.of0 hfW).trans (hfb.mono hM)
  have hF2 : FrB B w.heap.size w1 w2 := (FrB.of0 hfa).trans (FrB.of hf2 (by simp; omega))
  have hbb := (hh.fr0 hfa).after hf2 hR2
  have hf4 : Fr [] w2 (w2.alloc (.cells #[.int .i64 x1, .int .i64 x2, .string x3, .int .i64 x4] 56)) := (Fr.refl _ _).alloc _
  exact ⟨rfl, ((hbb.fr0 hf4).grow (by have := hfa.size; have := hf2.size; have := hf4.size; omega)), (hF1.trans hF2).trans (FrB.of0 hf4)⟩
set_option maxRecDepth 100000 in
set_option maxHeartbeats 4000000 in
theorem does4 {w : World} {B M cb bm rg rb n : Nat} {P : List Pg} (h : Both w B M cb bm rg rb n P) (hw : B ≤ M) (hM : M ≤ w.heap.size) (p1 p2 : Int) (p3 : ByteArray) (p4 r1 r2 : Int) :
    Calls Try.prog 12 #[.pointer (some ⟨cb, 0, none⟩), .pointer (some ⟨rb, 0, none⟩), .agg #[.int .i64 4, .int .i64 p1, .int .i64 p2, .string p3, .int .i64 p4, .int .i64 r1, .int .i64 r2]] w (DoesOut B cb bm rg rb n (dropP P r1 r2).2 w) := by
  obtain ⟨W, hWe⟩ : ∃ W, W = (w.alloc (.cells #[.int .i64 4, .int .i64 p1, .int .i64 p2, .string p3, .int .i64 p4, .int .i64 r1, .int .i64 r2] 35)).alloc (.cells #[.int .i64 p1, .int .i64 p2, .string p3, .int .i64 p4] 56) := ⟨_, rfl⟩
  have hfW : Fr [] w W := by rw [hWe]; exact ((Fr.refl _ _).alloc _).alloc _
  have hzW : W.heap.size = w.heap.size + 2 := by rw [hWe]; simp
  have hbo : W.heap[w.heap.size]? = some (.cells #[.int .i64 4, .int .i64 p1, .int .i64 p2, .string p3, .int .i64 p4, .int .i64 r1, .int .i64 r2] 35 (0, 0)) := by rw [hWe]; exact (Fr.refl [] _).alloc _ |>.keep (heap_alloc_new w _) (by simp)
  have hpg : W.heap[w.heap.size + 1]? = some (.cells #[.int .i64 p1, .int .i64 p2, .string p3, .int .i64 p4] 56 (0, 0)) := by
    rw [hWe]
    have := heap_alloc_new (w.alloc (.cells #[.int .i64 4, .int .i64 p1, .int .i64 p2, .string p3, .int .i64 p4, .int .i64 r1, .int .i64 r2] 35)) (.cells #[.int .i64 p1, .int .i64 p2, .string p3, .int .i64 p4] 56)
    simpa using this
  have hB := h.fr0 hfW
  have hfew := h.few
  have hnd := h.nodup
  have hrb := h.rb
  have hrB : B ≤ rb := by obtain ⟨Q, h1, h2, h3, h4⟩ := h; exact (h4 rb (by simp)).1
  have hcb := h.cb
  have hMW : M ≤ W.heap.size := by omega
  have hfew' := Lib.hid hfew; have hnd' := Lib.hid hnd; have hB' := Lib.hid hB
  clear hfew hnd hB h
  have c1 : ∀ X, Fr [] W X → _ := fun X hX => bdrop (hB'.out.fr0 hX) hw (Nat.le_trans hMW hX.size) r1 r2
  have c1' := Lib.hid c1
  have c2 : ∀ X, RefC X rb n P → _ := fun X hX => rdrop_any hX (by have := hfew'.out; omega) r1 r2
  have c2' := Lib.hid c2
  obtain ⟨r, hr⟩ : ∃ r, r = dropP P r1 r2 := ⟨_, rfl⟩
  rw [← hr] at c1' c2' ⊢
  obtain ⟨⟨x1, x2⟩, P2⟩ := r
  dsimp only at c1' c2' ⊢
  have hbo' := Lib.hid hbo; have hpg' := Lib.hid hpg; have hzW' := Lib.hid hzW
  clear c1 c2 hbo hpg hr hzW
  go_enter Try.func12, Try.ntmps12
  rw [hWe] at c1' hfW
  go_wp2_with (first | (go_at_call 22; refine (c1'.out _ (Fr.refl _ _)).mono ?_; rintro e w1 ⟨rfl, hh, hfb⟩; have hq := hfb.keep (by rw [← hWe]; exact hbo'.out) (by omega); have f0 := (show w1.cell? ⟨w.heap.size, 0, none⟩ = some (.int .i64 4) from cell_at hq); have f1 := (show w1.cell? ⟨w.heap.size, 1, none⟩ = some (.int .i64 p1) from cell_at hq); have f2 := (show w1.cell? ⟨w.heap.size, 2, none⟩ = some (.int .i64 p2) from cell_at hq); have f3 := (show w1.cell? ⟨w.heap.size, 3, none⟩ = some (.string p3) from cell_at hq); have f4 := (show w1.cell? ⟨w.heap.size, 4, none⟩ = some (.int .i64 p4) from cell_at hq); have f5 := (show w1.cell? ⟨w.heap.size, 5, none⟩ = some (.int .i64 r1) from cell_at hq); have f6 := (show w1.cell? ⟨w.heap.size, 6, none⟩ = some (.int .i64 r2) from cell_at hq); have lf := lt_of_cell f0; have c3 := c2'.out _ hh.ref; clear hq) | (go_at_call 28; refine c3.mono ?_; rintro e w2 ⟨rfl, hf2, hR2⟩))
  go_ret
  have hF1 : FrB B w.heap.size w w1 := (FrB.of0 hfW).trans (hfb.mono hM)
  have hF2 : FrB B w.heap.size w1 w2 := FrB.of hf2 (by simp; omega)
  exact ⟨rfl, ((hh.after hf2 hR2).grow hf2.size), hF1.trans hF2⟩
set_option maxRecDepth 100000 in
set_option maxHeartbeats 4000000 in
theorem does_other {k : Int} (k0 : k ≠ 0) (k1 : k ≠ 1) (k2 : k ≠ 2) (k3 : k ≠ 3) (k4 : k ≠ 4) (k5 : k ≠ 5) {w : World} {B M cb bm rg rb n : Nat} {P : List Pg} (h : Both w B M cb bm rg rb n P) (_ : B ≤ M) (hM : M ≤ w.heap.size) (p1 p2 : Int) (p3 : ByteArray) (p4 r1 r2 : Int) :
    Calls Try.prog 12 #[.pointer (some ⟨cb, 0, none⟩), .pointer (some ⟨rb, 0, none⟩), .agg #[.int .i64 k, .int .i64 p1, .int .i64 p2, .string p3, .int .i64 p4, .int .i64 r1, .int .i64 r2]] w (DoesOut B cb bm rg rb n P w) := by
  obtain ⟨W, hWe⟩ : ∃ W, W = (w.alloc (.cells #[.int .i64 k, .int .i64 p1, .int .i64 p2, .string p3, .int .i64 p4, .int .i64 r1, .int .i64 r2] 35)).alloc (.cells #[.int .i64 p1, .int .i64 p2, .string p3, .int .i64 p4] 56) := ⟨_, rfl⟩
  have hfW : Fr [] w W := by rw [hWe]; exact ((Fr.refl _ _).alloc _).alloc _
  have hzW : W.heap.size = w.heap.size + 2 := by rw [hWe]; simp
  have hbo : W.heap[w.heap.size]? = some (.cells #[.int .i64 k, .int .i64 p1, .int .i64 p2, .string p3, .int .i64 p4, .int .i64 r1, .int .i64 r2] 35 (0, 0)) := by rw [hWe]; exact (Fr.refl [] _).alloc _ |>.keep (heap_alloc_new w _) (by simp)
  have hpg : W.heap[w.heap.size + 1]? = some (.cells #[.int .i64 p1, .int .i64 p2, .string p3, .int .i64 p4] 56 (0, 0)) := by
    rw [hWe]
    have := heap_alloc_new (w.alloc (.cells #[.int .i64 k, .int .i64 p1, .int .i64 p2, .string p3, .int .i64 p4, .int .i64 r1, .int .i64 r2] 35)) (.cells #[.int .i64 p1, .int .i64 p2, .string p3, .int .i64 p4] 56)
    simpa using this
  have hB := h.fr0 hfW
  have hfew := h.few
  have hnd := h.nodup
  have hrb := h.rb
  have hrB : B ≤ rb := by obtain ⟨Q, h1, h2, h3, h4⟩ := h; exact (h4 rb (by simp)).1
  have hcb := h.cb
  have hMW : M ≤ W.heap.size := by omega
  have hfew' := Lib.hid hfew; have hnd' := Lib.hid hnd; have hB' := Lib.hid hB
  clear hfew hnd hB h
  have e0 : (k == 0) = false := by simpa using k0
  have e1 : (k == 1) = false := by simpa using k1
  have e2 : (k == 2) = false := by simpa using k2
  have e3 : (k == 3) = false := by simpa using k3
  have e4 : (k == 4) = false := by simpa using k4
  have e5 : (k == 5) = false := by simpa using k5
  have hWe' := Lib.hid hWe
  clear hbo hpg hzW k0 k1 k2 k3 k4 k5 hWe
  go_enter Try.func12, Try.ntmps12
  go_wp2
  go_ret
  rw [← hWe'.out]
  exact ⟨rfl, hB'.out.grow hMW, FrB.of0 hfW⟩
end Go.Proofs.Ytafeemlojlngfaa
