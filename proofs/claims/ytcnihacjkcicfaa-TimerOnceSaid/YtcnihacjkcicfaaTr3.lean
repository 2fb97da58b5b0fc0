/- The reference's timers: what holds of them in memory; Stop. -/
import Derived.Test.YtcnihacjkcicfaaTr2
import Derived.Test.YtcnihacjkcicfaaLst2
namespace Go.Proofs.Ytcnihacjkcicfaa
open Go.RowKit Go.Lib Go.Sort Go.Shelf
theorem RefAt.fr {w w' : World} {rb : Nat} {T : List Al} {S : List Nat} (h : RefAt w rb T) (hf : Fr S w w') (h1 : rb ∉ S) (h2 : ∀ s ∈ S, ∀ c e f, w.heap[s]? ≠ some (.cells c e f)) : RefAt w' rb T := by
  obtain ⟨v, c, f, hs⟩ := h
  have l := lt_of_cell c
  refine ⟨v, by rw [hf.cell (p := ⟨rb, 0, none⟩) l h1]; exact c, by rw [hf.frozen (p := ⟨rb, 0, none⟩) l h1]; exact f, ?_⟩
  obtain ⟨a, cap, hv, c1, c2, c3⟩ := hs
  refine ⟨a, cap, hv, c1, c2, ?_⟩
  rcases c3 with c3 | ⟨g, off, ha, hb, hg, hc⟩
  · exact .inl c3
  · by_cases hT : T = []
    · exact .inl hT
    · refine .inr ⟨g, off, ha, hb, Nat.lt_of_lt_of_le hg hf.size, fun j u hj => ?_⟩
      have hgS : g ∉ S := by
        intro hm
        have := hc j u hj
        unfold World.cell? at this
        cases ho : w.heap[g]? with
        | none => simp [ho] at this
        | some o =>
          cases o with
          | cells c e f => exact h2 g hm c e f ho
          | _ => simp [ho] at this
      rw [hf.cell (p := ⟨g, off + j, none⟩) hg hgS]
      exact hc j u hj
theorem RefAt.store {w : World} {rb : Nat} {T T' : List Al} {v : Value} (h : RefAt w rb T) (hs : SliceIs w (· ≠ rb) encAl v T') : RefAt (w.setCell ⟨rb, 0, none⟩ v) rb T' ∧ Fr [rb] w (w.setCell ⟨rb, 0, none⟩ v) := by
  obtain ⟨v0, c, f, _⟩ := h
  have hf : Fr [rb] w (w.setCell ⟨rb, 0, none⟩ v) := (Fr.refl _ _).setCell _ _ (.inl (by simp))
  refine ⟨⟨v, ?_, ?_, hs.fr hf (by intro g h _; simpa using h)⟩, hf⟩
  · exact World.cell?_setCell_same _ _ _ c
  · rw [World.frozen?_setCell]; exact f
theorem RefAt.lt {w : World} {rb : Nat} {T : List Al} (h : RefAt w rb T) : rb < w.heap.size := by obtain ⟨v, c, _⟩ := h; exact lt_of_cell c
theorem RefAt.new (w : World) (t : TypeId) : RefAt (w.alloc (.cells #[.slice none 0 0] t)) w.heap.size [] := ⟨_, by go_simp, by rw [World.frozen?, heap_alloc_new]; rfl, SliceIs.nil _ _ _⟩

set_option maxRecDepth 100000 in
set_option maxHeartbeats 1000000 in
theorem rstop_any (rb : Nat) (T : List Al) (n t : Int) (w : World) (h : RefAt w rb T) (hT : T.length < 1000000) :
    Calls Try.prog 29 #[.pointer (some ⟨rb, 0, none⟩), .int .i64 n, .int .i64 t] w fun e w' => e = .returned (.int .i64 (if (without T (n, t)).length = T.length then 3 else 0)) ∧ Fr [rb] w w' ∧ RefAt w' rb (without T (n, t)) := by
  have hw := without_any rb T n t w h hT
  obtain ⟨a0, cap0, hfd, hfz, _⟩ := h.open
  have hh := Lib.hid h
  have lr := lt_of_cell hfd
  have hT' : ∀ S : List Al, S = without T (n, t) → S.length < 1000000 := by intro S hS; rw [hS]; have := List.length_filter_le (fun a : Al => decide (keyOf a ≠ (n, t))) T; unfold without; omega
  have hsame : ∀ S : List Al, S = without T (n, t) → S.length = T.length → S = T := by
    intro S hS hl
    rw [hS] at hl ⊢
    exact List.filter_eq_self.2 (List.length_filter_eq_length_iff.1 hl)
  obtain ⟨S, hS⟩ : ∃ S, S = without T (n, t) := ⟨_, rfl⟩
  have hTS := hT' S hS
  have hsm := hsame S hS
  rw [← hS] at hw ⊢
  clear hS hT' hsame h
  by_cases hl : S.length = T.length
  · have e1 := hsm hl
    subst e1
    rw [if_pos rfl]
    go_enter Try.func29, Try.ntmps29
    go_wp2_with (first | (go_at_call 22; refine hw.mono ?_; rintro e w1 ⟨v, rfl, hf1, hs1⟩; obtain ⟨a, cap, rfl, _, _, _⟩ := hs1.at encAl_len; have hfd1 : w1.cell? ⟨rb, 0, none⟩ = some (.slice a0 S.length cap0) := (by rw [hf1.cell (p := ⟨rb, 0, none⟩) lr (by simp)]; exact hfd)))
    go_ret
    exact ⟨rfl, hf1.mono (by simp), hh.out.fr hf1 (by simp) (by simp)⟩
  · have hl' : (((S.length : Nat) : Int) == T.length) = false := by rw [beq_eq_false_iff_ne]; omega
    rw [if_neg hl]
    clear hl hsm
    go_enter Try.func29, Try.ntmps29
    go_wp2_with (first | (go_at_call 22; refine hw.mono ?_; rintro e w1 ⟨v, rfl, hf1, hs1⟩; obtain ⟨a, cap, rfl, _, _, _⟩ := hs1.at encAl_len; have hfd1 : w1.cell? ⟨rb, 0, none⟩ = some (.slice a0 T.length cap0) := (by rw [hf1.cell (p := ⟨rb, 0, none⟩) lr (by simp)]; exact hfd); have hfz1 : w1.frozen? ⟨rb, 0, none⟩ = false := (by rw [hf1.frozen (p := ⟨rb, 0, none⟩) lr (by simp)]; exact hfz)))
    go_ret
    have hst := (hh.out.fr hf1 (by simp) (by simp)).store (v := .slice a S.length cap) (T' := S) (hs1.imp (fun g _ h => by omega))
    exact ⟨rfl, (hf1.mono (by simp)).trans hst.2, hst.1⟩
end Go.Proofs.Ytcnihacjkcicfaa
