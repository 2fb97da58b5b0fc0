/- Pages (chapter 19): Fill, Set. -/
import Derived.Test.YtafeemlojlngfaaPg13
namespace Go.Proofs.Ytafeemlojlngfaa
open Go.RowKit Go.Maps
def fillP (n : Nat) (P : List Pg) (p : Pg) : Int × List Pg := putP n P p (decide (p.2.2.2 = 0)) fun was => decide (was.2.2.2 = 0 ∧ was.2.1 < p.2.1)
def setP (n : Nat) (P : List Pg) (p : Pg) : Int × List Pg := putP n P p (decide (1 ≤ p.2.2.2 ∧ p.2.2.2 ≤ 1099511627776)) fun was => decide (was.2.1 < p.2.1)
set_option maxHeartbeats 1000000 in
theorem fill1_any (s1 s2 : Int) (s3 : ByteArray) (s4 t : Int) (b : Nat) (w : World) (hb : w.cell? ⟨b, 1, none⟩ = some (.int .i64 t)) :
    Calls Try.prog 33 #[.agg #[.int .i64 s1, .int .i64 s2, .string s3, .int .i64 s4], .pointer (some ⟨b, 0, none⟩)] w fun e w' => e = .returned (.bool (decide (s4 = 0 ∧ s2 < t))) ∧ Fr [] w w' := by
  have lb := lt_of_cell hb
  by_cases h : s4 = 0
  · subst h
    go_enter Try.func33, Try.ntmps33
    go_wp2
    go_ret
    exact ⟨by simp, (Fr.refl _ _).alloc _⟩
  · have h' : (s4 == 0) = false := by simpa using h
    go_enter Try.func33, Try.ntmps33
    go_wp2
    go_ret
    exact ⟨by simp [h], (Fr.refl _ _).alloc _⟩
set_option maxHeartbeats 1000000 in
theorem set1_any (s1 s2 : Int) (s3 : ByteArray) (s4 t : Int) (b : Nat) (w : World) (hb : w.cell? ⟨b, 1, none⟩ = some (.int .i64 t)) :
    Calls Try.prog 34 #[.agg #[.int .i64 s1, .int .i64 s2, .string s3, .int .i64 s4], .pointer (some ⟨b, 0, none⟩)] w fun e w' => e = .returned (.bool (decide (s2 < t))) ∧ Fr [] w w' := by
  have lb := lt_of_cell hb
  go_enter Try.func34, Try.ntmps34
  go_wp2
  go_ret
  exact ⟨rfl, (Fr.refl _ _).alloc _⟩
def PutOut (n : Nat) (Q : List (Nat × Pg)) (cb bm rg : Nat) (r : Int × List Pg) (w : World) (e : Ending) (w' : World) : Prop :=
  e = .returned (.int .i64 r.1) ∧ Fr (bm :: rg :: Q.map (·.1)) w w' ∧ ∃ Q', Q'.map (·.2) = r.2 ∧ CacheAt w' cb bm rg n Q' ∧ ∀ q ∈ Q', q.1 ∈ Q.map (·.1) ∨ w.heap.size ≤ q.1
set_option maxHeartbeats 1000000 in
theorem fill_any {cb bm rg n : Nat} {Q : List (Nat × Pg)} {w : World} (h : CacheAt w cb bm rg n Q) (p : Pg) :
    Calls Try.prog 19 #[.pointer (some ⟨cb, 0, none⟩), aggPg p] w (PutOut n Q cb bm rg (fillP n (Q.map (·.2)) p) w) := by
  obtain ⟨W, hW⟩ : ∃ W, W = w.alloc (.cells #[.int .i64 p.1, .int .i64 p.2.1, .string p.2.2.1, .int .i64 p.2.2.2] 31) := ⟨_, rfl⟩
  have hf0 : Fr [] w W := by rw [hW]; exact (Fr.refl _ _).alloc _
  have hbx : W.heap[w.heap.size]? = some (.cells #[.int .i64 p.1, .int .i64 p.2.1, .string p.2.2.1, .int .i64 p.2.2.2] 31 (0, 0)) := by rw [hW]; exact heap_alloc_new w _
  have hwish : WishOk 33 #[.pointer (some ⟨w.heap.size, 0, none⟩)] (fun was => decide (was.2.2.2 = 0 ∧ was.2.1 < p.2.1)) W := by
    intro x W' hf
    exact fill1_any x.1 x.2.1 x.2.2.1 x.2.2.2 p.2.1 w.heap.size W' (cell_at (hf.keep hbx (by simp)))
  have hput := put_any (h.fr0 hf0) p (decide (p.2.2.2 = 0)) (enters_of Try.func33 (by kernel_rfl) rfl) hwish
  obtain ⟨r, hr⟩ : ∃ r, r = fillP n (Q.map (·.2)) p := ⟨_, rfl⟩
  have hr2 : putP n (Q.map (·.2)) p (decide (p.2.2.2 = 0)) (fun was => decide (was.2.2.2 = 0 ∧ was.2.1 < p.2.1)) = r := by rw [hr]; rfl
  rw [hr2] at hput
  rw [← hr]
  have hf0' := Lib.hid hf0
  clear hr hr2 hwish h hf0 hbx
  obtain ⟨p1, p2, p3, p4⟩ := p
  unfold aggPg at hput ⊢
  dsimp only at *
  rw [hW] at hput
  have hW' := Lib.hid hW; clear hW
  go_enter Try.func19, Try.ntmps19
  go_wp2_with (go_at_call 32; refine hput.mono ?_; rintro e w2 ⟨rfl, hf2, Q', hQ, hC, hn⟩)
  go_ret
  have hz : w.heap.size ≤ W.heap.size := hf0'.out.size
  rw [← hW'.out] at hf2 hn
  exact ⟨rfl, (hf0'.out.mono (by simp)).trans hf2, Q', hQ, hC, fun q hq => (hn q hq).imp id (fun h => by omega)⟩
set_option maxHeartbeats 1000000 in
theorem set_any {cb bm rg n : Nat} {Q : List (Nat × Pg)} {w : World} (h : CacheAt w cb bm rg n Q) (p : Pg) :
    Calls Try.prog 20 #[.pointer (some ⟨cb, 0, none⟩), aggPg p] w (PutOut n Q cb bm rg (setP n (Q.map (·.2)) p) w) := by
  obtain ⟨W, hW⟩ : ∃ W, W = w.alloc (.cells #[.int .i64 p.1, .int .i64 p.2.1, .string p.2.2.1, .int .i64 p.2.2.2] 31) := ⟨_, rfl⟩
  have hf0 : Fr [] w W := by rw [hW]; exact (Fr.refl _ _).alloc _
  have hbx : W.heap[w.heap.size]? = some (.cells #[.int .i64 p.1, .int .i64 p.2.1, .string p.2.2.1, .int .i64 p.2.2.2] 31 (0, 0)) := by rw [hW]; exact heap_alloc_new w _
  have hwish : WishOk 34 #[.pointer (some ⟨w.heap.size, 0, none⟩)] (fun was => decide (was.2.1 < p.2.1)) W := by
    intro x W' hf
    exact set1_any x.1 x.2.1 x.2.2.1 x.2.2.2 p.2.1 w.heap.size W' (cell_at (hf.keep hbx (by simp)))
  have hput := put_any (h.fr0 hf0) p (decide (1 ≤ p.2.2.2 ∧ p.2.2.2 ≤ 1099511627776)) (enters_of Try.func34 (by kernel_rfl) rfl) hwish
  obtain ⟨r, hr⟩ : ∃ r, r = setP n (Q.map (·.2)) p := ⟨_, rfl⟩
  have hr2 : putP n (Q.map (·.2)) p (decide (1 ≤ p.2.2.2 ∧ p.2.2.2 ≤ 1099511627776)) (fun was => decide (was.2.1 < p.2.1)) = r := by rw [hr]; rfl
  rw [hr2] at hput
  rw [← hr]
  have hf0' := Lib.hid hf0
  clear hr hr2 hwish h hf0 hbx
  obtain ⟨p1, p2, p3, p4⟩ := p
  unfold aggPg at hput ⊢
  dsimp only at *
  rw [hW] at hput
  have hW' := Lib.hid hW; clear hW
  by_cases c1 : 1 ≤ p4
  · by_cases c2 : p4 ≤ 1099511627776
    · rw [decide_eq_true (show 1 ≤ p4 ∧ p4 ≤ 1099511627776 from ⟨c1, c2⟩)] at hput
      go_enter Try.func20, Try.ntmps20
      go_wp2_with (go_at_call 32; refine hput.mono ?_; rintro e w2 ⟨rfl, hf2, Q', hQ, hC, hn⟩)
      go_ret
      have hz : w.heap.size ≤ W.heap.size := hf0'.out.size
      rw [← hW'.out] at hf2 hn
      exact ⟨rfl, (hf0'.out.mono (by simp)).trans hf2, Q', hQ, hC, fun q hq => (hn q hq).imp id (fun h => by omega)⟩
    · rw [decide_eq_false (show ¬ (1 ≤ p4 ∧ p4 ≤ 1099511627776) from fun h => c2 h.2)] at hput
      go_enter Try.func20, Try.ntmps20
      go_wp2_with (go_at_call 32; refine hput.mono ?_; rintro e w2 ⟨rfl, hf2, Q', hQ, hC, hn⟩)
      go_ret
      have hz : w.heap.size ≤ W.heap.size := hf0'.out.size
      rw [← hW'.out] at hf2 hn
      exact ⟨rfl, (hf0'.out.mono (by simp)).trans hf2, Q', hQ, hC, fun q hq => (hn q hq).imp id (fun h => by omega)⟩
  · rw [decide_eq_false (show ¬ (1 ≤ p4 ∧ p4 ≤ 1099511627776) from fun h => c1 h.1)] at hput
    go_enter Try.func20, Try.ntmps20
    go_wp2_with (go_at_call 32; refine hput.mono ?_; rintro e w2 ⟨rfl, hf2, Q', hQ, hC, hn⟩)
    go_ret
    have hz : w.heap.size ≤ W.heap.size := hf0'.out.size
    rw [← hW'.out] at hf2 hn
    exact ⟨rfl, (hf0'.out.mono (by simp)).trans hf2, Q', hQ, hC, fun q hq => (hn q hq).imp id (fun h => by omega)⟩
end Go.Proofs.Ytafeemlojlngfaa
