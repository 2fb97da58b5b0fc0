/- The law's shown and does. -/
import Derived.Test.YtcnihacjkcicfaaTr6
import Derived.Deep.RegionHeld3
namespace Go.Proofs.Ytcnihacjkcicfaa
open Go.RowKit Go.Lib Go.Sort Go.Shelf
theorem shown_any (w : World) : Calls Try.prog 16 #[] w fun e w' => e = .returned (.bool true) ∧ Fr [] w w' := by
  go_enter Try.func16, Try.ntmps16
  go_wp2_with (first | (go_at_call 8; refine (new_any _).mono ?_; rintro e w1 ⟨tb, bm, rfl, hf1, ht1, l1, l2⟩) | (go_at_call 21; refine (stop_any tb bm [] 0 0 w1 ht1).mono ?_; rintro e w2 ⟨rfl, hf2, _⟩; simp only [List.filter_nil, if_true]))
  go_ret
  exact ⟨rfl, hf1.andThen hf2 (by simp; omega)⟩
def stepT (T : List Al) (k : Int) (x : Al) : List Al :=
  if k = 0 then (setT T x).2 else if k = 1 then T.filter (fun a => !decide (a.1 = x.1 ∧ a.2.2 = x.2.2)) else if k = 2 then T.filter (fun a => !decide (a.1 = x.1 ∧ a.2.1 ≤ x.2.1)) else if k = 3 then T.filter (fun a => !decide (a.1 = x.1)) else T
theorem without_eq (T : List Al) (n t : Int) : without T (n, t) = T.filter (fun a => !decide (a.1 = n ∧ a.2.2 = t)) := by
  unfold without
  apply List.filter_congr
  intro a _
  simp [keyOf]
theorem TimersAt.frR {w w' : World} {tb bm rb : Nat} {T R : List Al} (h : TimersAt w tb bm T) (hr : RefAt w rb R) (hf : Fr [rb] w w') (hne : tb ≠ rb) : TimersAt w' tb bm T := by
  refine h.fr hf (by simpa using hne) ?_
  obtain ⟨f, n, ⟨L, ⟨es, c, hm⟩, hp⟩, s, l⟩ := h
  obtain ⟨v, hc, _⟩ := hr
  simp only [List.mem_singleton]
  rintro rfl
  have := hm.block
  rw [World.cell?, this] at hc
  cases hc
theorem RefAt.frT {w w' : World} {tb bm rb : Nat} {T R : List Al} (hr : RefAt w rb R) (h : TimersAt w tb bm T) (hf : Fr [bm] w w') : RefAt w' rb R := by
  obtain ⟨f, n, ⟨L, ⟨es, c, hm⟩, hp⟩, s, l⟩ := h
  have hb := hm.block
  refine hr.fr hf ?_ ?_
  · obtain ⟨v, hc, _⟩ := hr
    simp only [List.mem_singleton]
    rintro rfl
    rw [World.cell?, hb] at hc
    cases hc
  · intro s hs c e f
    simp only [List.mem_singleton] at hs
    subst hs
    rw [hb]; simp
theorem stop_lens (T : List Al) (n t : Int) : ((T.filter fun a => decide (a.1 = n ∧ a.2.2 = t)) = []) ↔ (without T (n, t)).length = T.length := by
  rw [without_eq, List.length_filter_eq_length_iff, List.filter_eq_nil_iff]
  constructor
  · intro h a ha
    have h2 := h a ha
    cases hd : decide (a.1 = n ∧ a.2.2 = t) with
    | true => exact absurd hd h2
    | false => rfl
  · intro h a ha h3
    have h2 := h a ha
    rw [h3] at h2
    cases h2
theorem keep6 {S : List Nat} {W W' : World} {b : Nat} {v0 v1 v2 u0 u1 u2 : Value} (hf : Fr S W W') (hb : b + 1 < W.heap.size) (hs : ∀ s ∈ S, s < b)
    (h : W.cell? ⟨b, 1, none⟩ = some u0 ∧ W.cell? ⟨b, 2, none⟩ = some u1 ∧ W.cell? ⟨b, 3, none⟩ = some u2 ∧ W.cell? ⟨b + 1, 0, none⟩ = some v0 ∧ W.cell? ⟨b + 1, 1, none⟩ = some v1 ∧ W.cell? ⟨b + 1, 2, none⟩ = some v2) :
    W'.cell? ⟨b, 1, none⟩ = some u0 ∧ W'.cell? ⟨b, 2, none⟩ = some u1 ∧ W'.cell? ⟨b, 3, none⟩ = some u2 ∧ W'.cell? ⟨b + 1, 0, none⟩ = some v0 ∧ W'.cell? ⟨b + 1, 1, none⟩ = some v1 ∧ W'.cell? ⟨b + 1, 2, none⟩ = some v2 := by
  have k0 : b ∉ S := fun h => by have := hs b h; omega
  have k1 : b + 1 ∉ S := fun h => by have := hs (b + 1) h; omega
  refine ⟨?_, ?_, ?_, ?_, ?_, ?_⟩
  · rw [hf.cell (p := ⟨b, 1, none⟩) (by simp; omega) k0]; exact h.1
  · rw [hf.cell (p := ⟨b, 2, none⟩) (by simp; omega) k0]; exact h.2.1
  · rw [hf.cell (p := ⟨b, 3, none⟩) (by simp; omega) k0]; exact h.2.2.1
  · rw [hf.cell (p := ⟨b + 1, 0, none⟩) hb k1]; exact h.2.2.2.1
  · rw [hf.cell (p := ⟨b + 1, 1, none⟩) hb k1]; exact h.2.2.2.2.1
  · rw [hf.cell (p := ⟨b + 1, 2, none⟩) hb k1]; exact h.2.2.2.2.2
theorem keep6_at (w : World) (k n a t : Int) : let W := ((w.alloc (Obj.cells #[.int .i64 k, .int .i64 n, .int .i64 a, .int .i64 t] 47)).alloc (Obj.cells #[.int .i64 n, .int .i64 a, .int .i64 t] 34)).drew
    W.cell? ⟨w.heap.size, 1, none⟩ = some (.int .i64 n) ∧ W.cell? ⟨w.heap.size, 2, none⟩ = some (.int .i64 a) ∧ W.cell? ⟨w.heap.size, 3, none⟩ = some (.int .i64 t) ∧ W.cell? ⟨w.heap.size + 1, 0, none⟩ = some (.int .i64 n) ∧ W.cell? ⟨w.heap.size + 1, 1, none⟩ = some (.int .i64 a) ∧ W.cell? ⟨w.heap.size + 1, 2, none⟩ = some (.int .i64 t) := by
  refine ⟨?_, ?_, ?_, ?_, ?_, ?_⟩ <;> go_simp
set_option maxHeartbeats 4000000 in
theorem does0 (tb bm rb : Nat) (T R : List Al) (n a t : Int) (w : World) (h : TimersAt w tb bm T) (hr : RefAt w rb R) (hne : tb ≠ rb) (hR : R.length < 1000000) :
    Calls Try.prog 18 #[.pointer (some ⟨tb, 0, none⟩), .pointer (some ⟨rb, 0, none⟩), .agg #[.int .i64 0, .int .i64 n, .int .i64 a, .int .i64 t]] w fun e w' => ∃ b, e = .returned (.bool b) ∧ (T = R → b = true) ∧ Fr [bm, rb] w w' ∧ TimersAt w' tb bm (stepT T 0 (n, a, t)) ∧ RefAt w' rb (stepT R 0 (n, a, t)) := by
  have hf0 : Fr [] w ((w.alloc (Obj.cells #[.int .i64 0, .int .i64 n, .int .i64 a, .int .i64 t] 47)).alloc (Obj.cells #[.int .i64 n, .int .i64 a, .int .i64 t] 34)).drew := ((((Fr.refl _ _).alloc _).alloc _)).drew
  have h0 := h.fr hf0 (by simp) (by simp)
  have hr0 := hr.fr hf0 (by simp) (by simp)
  have l0 := h.lt
  have lr := hr.lt
  have hTl : T.length < 1000000 := by have := h.few; omega
  go_enter Try.func18, Try.ntmps18
  go_wp2
  have hset := set_any tb bm T (n, a, t) _ h0
  have hsb : ∀ s ∈ [bm], s < w.heap.size := by simp; omega
  have hsr : ∀ s ∈ [rb], s < w.heap.size := by simp; omega
  have k6 := keep6_at w 0 n a t
  have hwr : ((w.alloc (Obj.cells #[.int .i64 0, .int .i64 n, .int .i64 a, .int .i64 t] 47)).alloc (Obj.cells #[.int .i64 n, .int .i64 a, .int .i64 t] 34)).drew.heap.size = w.heap.size + 2 := by simp
  go_region_held3 (fun w' => w'.cell? ⟨w.heap.size, 1, none⟩ = some (.int .i64 n) ∧ w'.cell? ⟨w.heap.size, 2, none⟩ = some (.int .i64 a) ∧ w'.cell? ⟨w.heap.size, 3, none⟩ = some (.int .i64 t) ∧ w'.cell? ⟨w.heap.size + 1, 0, none⟩ = some (.int .i64 n) ∧ w'.cell? ⟨w.heap.size + 1, 1, none⟩ = some (.int .i64 a) ∧ w'.cell? ⟨w.heap.size + 1, 2, none⟩ = some (.int .i64 t)) (first | go_keep | exact hk1 | exact hk2)
    (first | (go_at_call 9; refine hset.mono ?_; rintro e w1 ⟨rfl, hf1, ht1⟩; have hr1 := hr0.frT h0 hf1; have hk1 := keep6 hf1 (by rw [hwr]; omega) hsb k6; have lw1 := hf1.size; have hset2 := rset_any rb R (n, a, t) w1 hr1 hR) | (go_at_call 10; refine hset2.mono ?_; rintro e w2 ⟨rfl, hf2, hr2⟩; have ht2 := ht1.frR hr1 hf2 hne; have hk2 := keep6 hf2 (by omega) hsr hk1))
  go_wp2
  go_ret
  refine ⟨_, rfl, fun e => ?_, ((hf0.mono (T := [bm, rb]) (by simp)).trans (hf1.mono (T := [bm, rb]) (by simp))).trans (hf2.mono (by simp)), ht2, hr2⟩
  simp [e]
set_option maxHeartbeats 4000000 in
theorem does1 (tb bm rb : Nat) (T R : List Al) (n a t : Int) (w : World) (h : TimersAt w tb bm T) (hr : RefAt w rb R) (hne : tb ≠ rb) (hR : R.length < 1000000) :
    Calls Try.prog 18 #[.pointer (some ⟨tb, 0, none⟩), .pointer (some ⟨rb, 0, none⟩), .agg #[.int .i64 1, .int .i64 n, .int .i64 a, .int .i64 t]] w fun e w' => ∃ b, e = .returned (.bool b) ∧ (T = R → b = true) ∧ Fr [bm, rb] w w' ∧ TimersAt w' tb bm (stepT T 1 (n, a, t)) ∧ RefAt w' rb (stepT R 1 (n, a, t)) := by
  have hf0 : Fr [] w ((w.alloc (Obj.cells #[.int .i64 1, .int .i64 n, .int .i64 a, .int .i64 t] 47)).alloc (Obj.cells #[.int .i64 n, .int .i64 a, .int .i64 t] 34)).drew := ((((Fr.refl _ _).alloc _).alloc _)).drew
  have h0 := h.fr hf0 (by simp) (by simp)
  have hr0 := hr.fr hf0 (by simp) (by simp)
  have l0 := h.lt
  have lr := hr.lt
  have hTl : T.length < 1000000 := by have := h.few; omega
  go_enter Try.func18, Try.ntmps18
  go_wp2
  have hsb : ∀ s ∈ [bm], s < w.heap.size := by simp; omega
  have hsr : ∀ s ∈ [rb], s < w.heap.size := by simp; omega
  have k6 := keep6_at w 1 n a t
  have hwr : ((w.alloc (Obj.cells #[.int .i64 1, .int .i64 n, .int .i64 a, .int .i64 t] 47)).alloc (Obj.cells #[.int .i64 n, .int .i64 a, .int .i64 t] 34)).drew.heap.size = w.heap.size + 2 := by simp
  have hst := stop_any tb bm T n t _ h0
  obtain ⟨x, hx⟩ : ∃ x : Int, x = (if (T.filter fun a => decide (a.1 = n ∧ a.2.2 = t)) = [] then 3 else 0) := ⟨_, rfl⟩
  obtain ⟨y, hy⟩ : ∃ y : Int, y = (if (without R (n, t)).length = R.length then 3 else 0) := ⟨_, rfl⟩
  have hy' := Lib.hid hy; clear hy
  rw [← hx] at hst
  have hx' := Lib.hid hx; clear hx
  go_region_held3 (fun w' => w'.cell? ⟨w.heap.size, 1, none⟩ = some (.int .i64 n) ∧ w'.cell? ⟨w.heap.size, 2, none⟩ = some (.int .i64 a) ∧ w'.cell? ⟨w.heap.size, 3, none⟩ = some (.int .i64 t) ∧ w'.cell? ⟨w.heap.size + 1, 0, none⟩ = some (.int .i64 n) ∧ w'.cell? ⟨w.heap.size + 1, 1, none⟩ = some (.int .i64 a) ∧ w'.cell? ⟨w.heap.size + 1, 2, none⟩ = some (.int .i64 t)) (first | go_keep | exact hk1 | exact hk2)
    (first | (go_at_call 21; refine hst.mono ?_; rintro e w1 ⟨rfl, hf1, ht1⟩; have hr1 := hr0.frT h0 hf1; have hk1 := keep6 hf1 (by rw [hwr]; omega) hsb k6; have lw1 := hf1.size; have hst2 := rstop_any rb R n t w1 hr1 hR; rw [← hy'.out] at hst2) | (go_at_call 29; refine hst2.mono ?_; rintro e w2 ⟨rfl, hf2, hr2⟩; have ht2 := ht1.frR hr1 hf2 hne; have hk2 := keep6 hf2 (by omega) hsr hk1))
  go_wp2
  go_ret
  refine ⟨_, rfl, fun e => ?_, ((hf0.mono (T := [bm, rb]) (by simp)).trans (hf1.mono (T := [bm, rb]) (by simp))).trans (hf2.mono (by simp)), ht2, by rw [without_eq] at hr2; exact hr2⟩
  subst e
  have hxy : x = y := by
    rw [hx'.out, hy'.out]
    by_cases c : (without T (n, t)).length = T.length
    · rw [if_pos c, if_pos ((stop_lens T n t).2 c)]
    · rw [if_neg c, if_neg (fun h => c ((stop_lens T n t).1 h))]
  simp [hxy]
set_option maxHeartbeats 4000000 in
theorem does2 (tb bm rb : Nat) (T R : List Al) (n a t : Int) (w : World) (h : TimersAt w tb bm T) (hr : RefAt w rb R) (hne : tb ≠ rb) (hR : R.length < 1000000) :
    Calls Try.prog 18 #[.pointer (some ⟨tb, 0, none⟩), .pointer (some ⟨rb, 0, none⟩), .agg #[.int .i64 2, .int .i64 n, .int .i64 a, .int .i64 t]] w fun e w' => ∃ b, e = .returned (.bool b) ∧ (T = R → b = true) ∧ Fr [bm, rb] w w' ∧ TimersAt w' tb bm (stepT T 2 (n, a, t)) ∧ RefAt w' rb (stepT R 2 (n, a, t)) := by
  have hf0 : Fr [] w ((w.alloc (Obj.cells #[.int .i64 2, .int .i64 n, .int .i64 a, .int .i64 t] 47)).alloc (Obj.cells #[.int .i64 n, .int .i64 a, .int .i64 t] 34)).drew := ((((Fr.refl _ _).alloc _).alloc _)).drew
  have h0 := h.fr hf0 (by simp) (by simp)
  have hr0 := hr.fr hf0 (by simp) (by simp)
  have l0 := h.lt
  have lr := hr.lt
  have hTl : T.length < 1000000 := by have := h.few; omega
  go_enter Try.func18, Try.ntmps18
  go_wp2
  have hsb : ∀ s ∈ [bm], s < w.heap.size := by simp; omega
  have hsr : ∀ s ∈ [rb], s < w.heap.size := by simp; omega
  have k6 := keep6_at w 2 n a t
  have hwr : ((w.alloc (Obj.cells #[.int .i64 2, .int .i64 n, .int .i64 a, .int .i64 t] 47)).alloc (Obj.cells #[.int .i64 n, .int .i64 a, .int .i64 t] 34)).drew.heap.size = w.heap.size + 2 := by simp
  have hdu := due_any tb bm T n a _ h0
  go_region_held3 (fun w' => w'.cell? ⟨w.heap.size, 1, none⟩ = some (.int .i64 n) ∧ w'.cell? ⟨w.heap.size, 2, none⟩ = some (.int .i64 a) ∧ w'.cell? ⟨w.heap.size, 3, none⟩ = some (.int .i64 t) ∧ w'.cell? ⟨w.heap.size + 1, 0, none⟩ = some (.int .i64 n) ∧ w'.cell? ⟨w.heap.size + 1, 1, none⟩ = some (.int .i64 a) ∧ w'.cell? ⟨w.heap.size + 1, 2, none⟩ = some (.int .i64 t)) (first | go_keep | exact hk1 | exact hk2 | exact hk3)
    (first | (go_at_call 12; refine hdu.mono ?_; rintro e w1 ⟨v, rfl, hf1, hs1, ht1⟩; have hr1 := hr0.frT h0 hf1; have hk1 := keep6 hf1 (by rw [hwr]; omega) hsb k6; have lw1 := hf1.size; have hth := theirs_any v _ w1 hs1 (Nat.lt_of_le_of_lt (List.length_filter_le _ _) hTl)) | (go_at_call 11; refine hth.mono ?_; rintro e w2 ⟨v2, rfl, hf2, hs2⟩; have hr2 := hr1.fr hf2 (by simp) (by simp); have ht2 := ht1.fr hf2 (by simp) (by simp); have hk2 := keep6 hf2 (by omega) (by simp) hk1; have lw2 := hf2.size; have hrd := rdue_any rb R n a w2 hr2 hR) | (go_at_call 14; refine hrd.mono ?_; rintro e w3 ⟨v3, rfl, hf3, hs3, hr3⟩; have ht3 := ht2.frR hr2 hf3 hne; have hk3 := keep6 hf3 (by omega) hsr hk2; have hs2' := hs2.fr hf3 (by simp; omega); have hsm := same_any v2 v3 _ _ w3 hs2' hs3 (Nat.lt_of_le_of_lt (List.length_filter_le _ _) hTl)) | (go_at_call 13; refine hsm.mono ?_; rintro e w4 ⟨rfl, q, rfl⟩))
  go_wp2
  go_ret
  refine ⟨_, rfl, fun e => by subst e; simp, ((((hf0.mono (T := [bm, rb]) (by simp)).trans (hf1.mono (T := [bm, rb]) (by simp))).trans (hf2.mono (by simp))).trans (hf3.mono (by simp))).drewN q, ht3.fr ((Fr.refl [] _).drewN q) (by simp) (by simp), hr3.fr ((Fr.refl [] _).drewN q) (by simp) (by simp)⟩
set_option maxHeartbeats 4000000 in
theorem does3 (tb bm rb : Nat) (T R : List Al) (n a t : Int) (w : World) (h : TimersAt w tb bm T) (hr : RefAt w rb R) (hne : tb ≠ rb) (hR : R.length < 1000000) :
    Calls Try.prog 18 #[.pointer (some ⟨tb, 0, none⟩), .pointer (some ⟨rb, 0, none⟩), .agg #[.int .i64 3, .int .i64 n, .int .i64 a, .int .i64 t]] w fun e w' => ∃ b, e = .returned (.bool b) ∧ (T = R → b = true) ∧ Fr [bm, rb] w w' ∧ TimersAt w' tb bm (stepT T 3 (n, a, t)) ∧ RefAt w' rb (stepT R 3 (n, a, t)) := by
  have hf0 : Fr [] w ((w.alloc (Obj.cells #[.int .i64 3, .int .i64 n, .int .i64 a, .int .i64 t] 47)).alloc (Obj.cells #[.int .i64 n, .int .i64 a, .int .i64 t] 34)).drew := ((((Fr.refl _ _).alloc _).alloc _)).drew
  have h0 := h.fr hf0 (by simp) (by simp)
  have hr0 := hr.fr hf0 (by simp) (by simp)
  have l0 := h.lt
  have lr := hr.lt
  have hTl : T.length < 1000000 := by have := h.few; omega
  go_enter Try.func18, Try.ntmps18
  go_wp2
  have hsb : ∀ s ∈ [bm], s < w.heap.size := by simp; omega
  have hsr : ∀ s ∈ [rb], s < w.heap.size := by simp; omega
  have k6 := keep6_at w 3 n a t
  have hwr : ((w.alloc (Obj.cells #[.int .i64 3, .int .i64 n, .int .i64 a, .int .i64 t] 47)).alloc (Obj.cells #[.int .i64 n, .int .i64 a, .int .i64 t] 34)).drew.heap.size = w.heap.size + 2 := by simp
  have hst := clear_any tb bm T n _ h0
  go_region_held3 (fun w' => w'.cell? ⟨w.heap.size, 1, none⟩ = some (.int .i64 n) ∧ w'.cell? ⟨w.heap.size, 2, none⟩ = some (.int .i64 a) ∧ w'.cell? ⟨w.heap.size, 3, none⟩ = some (.int .i64 t) ∧ w'.cell? ⟨w.heap.size + 1, 0, none⟩ = some (.int .i64 n) ∧ w'.cell? ⟨w.heap.size + 1, 1, none⟩ = some (.int .i64 a) ∧ w'.cell? ⟨w.heap.size + 1, 2, none⟩ = some (.int .i64 t)) (first | go_keep | exact hk1 | exact hk2)
    (first | (go_at_call 20; refine hst.mono ?_; rintro e w1 ⟨rfl, hf1, ht1⟩; have hr1 := hr0.frT h0 hf1; have hk1 := keep6 hf1 (by rw [hwr]; omega) hsb k6; have lw1 := hf1.size; have hst2 := rclear_any rb R n w1 hr1 hR) | (go_at_call 30; refine hst2.mono ?_; rintro e w2 ⟨rfl, hf2, hr2⟩; have ht2 := ht1.frR hr1 hf2 hne; have hk2 := keep6 hf2 (by omega) hsr hk1))
  go_wp2
  go_ret
  refine ⟨_, rfl, fun e => by subst e; simp, ((hf0.mono (T := [bm, rb]) (by simp)).trans (hf1.mono (T := [bm, rb]) (by simp))).trans (hf2.mono (by simp)), ht2, hr2⟩
set_option maxHeartbeats 4000000 in
theorem does_any (tb bm rb : Nat) (T R : List Al) (k n a t : Int) (w : World) (h : TimersAt w tb bm T) (hr : RefAt w rb R) (hne : tb ≠ rb) (hR : R.length < 1000000) :
    Calls Try.prog 18 #[.pointer (some ⟨tb, 0, none⟩), .pointer (some ⟨rb, 0, none⟩), .agg #[.int .i64 k, .int .i64 n, .int .i64 a, .int .i64 t]] w fun e w' => ∃ b, e = .returned (.bool b) ∧ (T = R → b = true) ∧ Fr [bm, rb] w w' ∧ TimersAt w' tb bm (stepT T k (n, a, t)) ∧ RefAt w' rb (stepT R k (n, a, t)) := by
  by_cases k0 : k = 0
  · subst k0; exact does0 tb bm rb T R n a t w h hr hne hR
  by_cases k1 : k = 1
  · subst k1; exact does1 tb bm rb T R n a t w h hr hne hR
  by_cases k2 : k = 2
  · subst k2; exact does2 tb bm rb T R n a t w h hr hne hR
  by_cases k3 : k = 3
  · subst k3; exact does3 tb bm rb T R n a t w h hr hne hR
  have hf0 : Fr [] w ((w.alloc (Obj.cells #[.int .i64 k, .int .i64 n, .int .i64 a, .int .i64 t] 47)).alloc (Obj.cells #[.int .i64 n, .int .i64 a, .int .i64 t] 34)).drew := ((((Fr.refl _ _).alloc _).alloc _)).drew
  have h0 := h.fr hf0 (by simp) (by simp)
  have hr0 := hr.fr hf0 (by simp) (by simp)
  have l0 := h.lt
  have lr := hr.lt
  have hTl : T.length < 1000000 := by have := h.few; omega
  go_enter Try.func18, Try.ntmps18
  go_wp2
  go_ret
  have hf0' : Fr [] w ((w.alloc (Obj.cells #[.int .i64 k, .int .i64 n, .int .i64 a, .int .i64 t] 47)).alloc (Obj.cells #[.int .i64 n, .int .i64 a, .int .i64 t] 34)) := (((Fr.refl _ _).alloc _).alloc _)
  have e1 : ∀ T, stepT T k (n, a, t) = T := fun T => by simp [stepT, k0, k1, k2, k3]
  exact ⟨true, rfl, fun _ => rfl, hf0'.mono (by simp), by rw [e1]; exact h.fr hf0' (by simp) (by simp), by rw [e1]; exact hr.fr hf0' (by simp) (by simp)⟩
end Go.Proofs.Ytcnihacjkcicfaa
