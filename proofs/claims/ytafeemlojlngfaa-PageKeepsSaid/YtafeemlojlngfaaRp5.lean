/- The reference's pages: put, whatever the page; Fill of a page that may not be. -/
import Derived.Test.YtafeemlojlngfaaRp4
namespace Go.Proofs.Ytafeemlojlngfaa
open Go.RowKit Go.Maps Go.Lib Go.Sort
def putR (n : Nat) (P : List Pg) (p : Pg) : Int × List Pg := match findP P p.1 with | some _ => (0, p :: cutP P p.1) | none => if P.length < n then (0, p :: P) else fullP P p
def OutR (rb n : Nat) (r : Int × List Pg) (w : World) (e : Ending) (w' : World) : Prop := e = .returned (.int .i64 r.1) ∧ Fr [rb] w w' ∧ RefC w' rb n r.2
theorem rput_any {rb n : Nat} {P : List Pg} {w : World} (h : RefC w rb n P) (hl : P.length < 1000000) (hnd : (P.map (·.1)).Nodup) (p : Pg) :
    Calls Try.prog 47 #[.pointer (some ⟨rb, 0, none⟩), aggPg p] w (OutR rb n (putR n P p) w) := by
  rcases at_split P hnd p.1 with ⟨ha, hf⟩ | ⟨i, q, ha, hi, hq, hb, hf, hc⟩
  · by_cases hr : P.length < n
    · have e : putR n P p = (0, p :: P) := by unfold putR; rw [hf]; simp [hr]
      rw [e]
      exact rput_room h hl p ha hr
    · have e : putR n P p = fullP P p := by unfold putR; rw [hf]; simp [hr]
      rw [e]
      exact rput_full h hl hnd p ha hr
  · have e : putR n P p = (0, p :: (P.take i ++ P.drop (i + 1))) := by unfold putR; rw [hf, hc]
    rw [e]
    exact rput_found h hl p i hi ha
theorem putP_ok {n : Nat} {P : List Pg} {p : Pg} {sq : Bool} {wish : Pg → Bool} (hb : badPg p sq = 0) (hw : ∀ q, findP P p.1 = some q → wish q = true) : putP n P p sq wish = putR n P p := by
  unfold putP putR fullP
  rw [if_neg (by rw [hb]; simp)]
  cases hf : findP P p.1 with
  | none => rfl
  | some q => simp [hw q hf]
theorem putP_bad {n : Nat} {P : List Pg} {p : Pg} {sq : Bool} {wish : Pg → Bool} {e : Int} (hb : badPg p sq = e) (he : e ≠ 0) : putP n P p sq wish = (e, P) := by
  unfold putP
  rw [if_pos (by rw [hb]; exact he), hb]
theorem putP_old {n : Nat} {P : List Pg} {p q : Pg} {sq : Bool} {wish : Pg → Bool} (hb : badPg p sq = 0) (hf : findP P p.1 = some q) (hw : wish q = false) : putP n P p sq wish = (5, P) := by
  unfold putP
  rw [if_neg (by rw [hb]; simp), hf]
  simp [hw]
theorem badR_cases (p : Pg) : badR p = 0 ∨ badR p = 1 ∨ badR p = 71 := by unfold badR; split <;> (try split) <;> simp
theorem badPg_of {p : Pg} {sq : Bool} (h : badR p ≠ 0) : badPg p sq = badR p := by
  unfold badR badPg at *
  split
  · rfl
  · rename_i h1
    rw [if_neg h1] at h
    split
    · rename_i h2
      split
      · rfl
      · rename_i h3
        rw [if_neg h3] at h
        exact absurd rfl h
    · rename_i h2
      rw [if_neg (fun hh => h2 (hh.elim .inl (fun q => .inr (.inl q))))] at h
      exact absurd rfl h
theorem badPg_in {p : Pg} {sq : Bool} (h : badR p = 0) : badPg p sq = if sq = false then 1 else if 16 < p.2.2.1.size then 11 else 0 := by
  unfold badR at h
  split at h
  · simp at h
  · rename_i h1
    split at h
    · simp at h
    · rename_i h2
      unfold badPg
      rw [if_neg h1]
      cases sq
      · simp
      · rw [if_neg (by simp; omega)]; simp
set_option maxRecDepth 100000 in
set_option maxHeartbeats 4000000 in
theorem rfill_bad {rb n : Nat} {P : List Pg} {w : World} (h : RefC w rb n P) (p : Pg) (hb : badPg p (decide (p.2.2.2 = 0)) ≠ 0) :
    Calls Try.prog 25 #[.pointer (some ⟨rb, 0, none⟩), aggPg p] w (OutR rb n (badPg p (decide (p.2.2.2 = 0)), P) w) := by
  obtain ⟨W, hW⟩ : ∃ W, W = w.alloc (.cells #[.int .i64 p.1, .int .i64 p.2.1, .string p.2.2.1, .int .i64 p.2.2.2] 56) := ⟨_, rfl⟩
  have hf0 : Fr [] w W := by rw [hW]; exact (Fr.refl _ _).alloc _
  have hb1 : W.heap[w.heap.size]? = some (.cells #[.int .i64 p.1, .int .i64 p.2.1, .string p.2.2.1, .int .i64 p.2.2.2] 56 (0, 0)) := by rw [hW]; exact heap_alloc_new w _
  have hwr := wrong_any p W
  obtain ⟨b, hbe⟩ : ∃ b, b = badPg p (decide (p.2.2.2 = 0)) := ⟨_, rfl⟩
  rw [← hbe] at hb ⊢
  by_cases hr : badR p = 0
  · rw [hr] at hwr
    rw [badPg_in hr] at hbe
    obtain ⟨p1, p2, p3, p4⟩ := p
    unfold aggPg at hwr ⊢
    dsimp only at *
    rw [hW] at hwr
    by_cases hz : p4 = 0
    · subst hz
      simp only [decide_true, Bool.true_eq_false, if_false] at hbe
      have hlong : 16 < p3.size := by
        refine Nat.lt_of_not_le fun hle => ?_
        rw [if_neg (by omega)] at hbe
        exact hb hbe
      rw [if_pos hlong] at hbe
      subst hbe
      clear hr hb
      have hb1' := Lib.hid hb1; have hW' := Lib.hid hW; clear hb1 hW
      go_enter Try.func25, Try.ntmps25
      go_wp2_with (go_at_call 46; refine hwr.mono ?_; rintro e w2 ⟨rfl, hf2⟩; have hb2 := hf2.keep (by rw [← hW'.out]; exact hb1'.out) (by simp); have j2 := (show w2.cell? ⟨w.heap.size, 2, none⟩ = some (.string p3) from cell_at hb2); have j3 := (show w2.cell? ⟨w.heap.size, 3, none⟩ = some (.int .i64 0) from cell_at hb2); have lj := lt_of_cell j2; clear hb2)
      go_ret
      have hfw := hf0.trans (by rw [hW'.out]; exact hf2)
      exact ⟨rfl, hfw.mono (by simp), h.fr0 hfw⟩
    · have hz' : (p4 != 0) = true := by simpa using hz
      rw [decide_eq_false hz, if_pos rfl] at hbe
      subst hbe
      clear hr hb
      have hb1' := Lib.hid hb1; have hW' := Lib.hid hW; clear hb1 hW
      go_enter Try.func25, Try.ntmps25
      go_wp2_with (go_at_call 46; refine hwr.mono ?_; rintro e w2 ⟨rfl, hf2⟩; have hb2 := hf2.keep (by rw [← hW'.out]; exact hb1'.out) (by simp); have j2 := (show w2.cell? ⟨w.heap.size, 2, none⟩ = some (.string p3) from cell_at hb2); have j3 := (show w2.cell? ⟨w.heap.size, 3, none⟩ = some (.int .i64 p4) from cell_at hb2); have lj := lt_of_cell j2; clear hb2)
      go_ret
      have hfw := hf0.trans (by rw [hW'.out]; exact hf2)
      exact ⟨rfl, hfw.mono (by simp), h.fr0 hfw⟩
  · rw [badPg_of hr] at hbe
    rw [← hbe] at hwr hr
    obtain ⟨p1, p2, p3, p4⟩ := p
    unfold aggPg at hwr ⊢
    dsimp only at *
    rw [hW] at hwr
    have hr1 : (b == 0) = false := by simpa using hr
    have hr2 : (b != 0) = true := by simpa using hr
    clear hr hb hbe
    have hb1' := Lib.hid hb1; have hW' := Lib.hid hW; clear hb1 hW
    go_enter Try.func25, Try.ntmps25
    go_wp2_with (go_at_call 46; refine hwr.mono ?_; rintro e w2 ⟨rfl, hf2⟩; have hb2 := hf2.keep (by rw [← hW'.out]; exact hb1'.out) (by simp); have j2 := (show w2.cell? ⟨w.heap.size, 2, none⟩ = some (.string p3) from cell_at hb2); have j3 := (show w2.cell? ⟨w.heap.size, 3, none⟩ = some (.int .i64 p4) from cell_at hb2); have lj := lt_of_cell j2; clear hb2)
    go_ret
    have hfw := hf0.trans (by rw [hW'.out]; exact hf2)
    exact ⟨rfl, hfw.mono (by simp), h.fr0 hfw⟩
end Go.Proofs.Ytafeemlojlngfaa
