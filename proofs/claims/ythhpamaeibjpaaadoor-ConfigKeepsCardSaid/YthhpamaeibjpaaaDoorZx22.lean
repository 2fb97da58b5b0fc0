/- Contracts and words, several texts in one. -/
import Derived.BigQuiet
import Derived.Test.YthhpamaeibjpaaaDoorZx3
import Derived.Test.YthhpamaeibjpaaaDoorZx20
section
namespace Go.Proofs.YthhpamaeibjpaaaDoor
open Go.RowKit Go.Maps Go.Lib Go.Sort
set_option linter.unusedVariables false
attribute [local go_sem ↓] Go.wp_at_zero Go.wp_at_succ
set_option maxRecDepth 100000 in
set_option maxHeartbeats 8000000 in
theorem keeps_walk {B : Nat → Prop} (v : Value) (L : List Ord) (o : Ord) (b : Int) (w : World) (h : SliceIs w B encO v L) (hkin : KindsAt w) :
    Calls Tryd.prog 4 #[v, .agg #[.int .i64 o.1, .int .i64 o.2.1, .int .i64 o.2.2.1, .int .i64 o.2.2.2.1, .int .i64 o.2.2.2.2], .int .i64 b] w fun e w' => e = .returned (.bool true) ∧ Fr [] w w' := by
  obtain ⟨k, n, m, F, T⟩ := o
  have hok := after_ok L 60
  obtain ⟨C, hC⟩ : ∃ C, C = afterP L 60 := ⟨_, rfl⟩
  rw [← hC] at hok
  obtain ⟨ep, sv, pt, tb⟩ := C
  obtain ⟨W0, hW0⟩ : ∃ W0, W0 = w.alloc (.cells #[.int .i64 k, .int .i64 n, .int .i64 m, .int .i64 F, .int .i64 T] 30) := ⟨_, rfl⟩
  have hF0 : Fr [] w W0 := by rw [hW0]; exact (Fr.refl _ _).alloc _
  have hob' : Hid (W0.heap[w.heap.size]? = some (.cells #[.int .i64 k, .int .i64 n, .int .i64 m, .int .i64 F, .int .i64 T] 30 (0, 0))) := Lib.hid (by rw [hW0]; exact heap_alloc_new w _)
  have haf := fun X (hX : Fr [] w X) => after_at (h.fr hX (by simp)) (hkin.fr hX (by simp)) hC
  obtain ⟨a0, cap0, rfl, -⟩ := h
  have hsm := ok_small hok
  have hsh := shown_any
  have hok' := Lib.hid hok; have haf' := Lib.hid haf; have hkin' := Lib.hid hkin; have hW0' := Lib.hid hW0
  have hF' : Hid (Fr [] w W0) := Lib.hid hF0
  obtain ⟨r, hr⟩ : ∃ r, applyP ⟨ep, sv, pt, tb⟩ (k, n, m, F, T) = r := ⟨_, rfl⟩
  have hr' := Lib.hid hr
  obtain ⟨D, hD⟩ : ∃ D, whereP ⟨ep, sv, pt, tb⟩ b = D := ⟨_, rfl⟩
  have hD' := Lib.hid hD
  obtain ⟨x1, y1, f1⟩ := D
  obtain ⟨⟨ep2, sv2, pt2, tb2⟩, er⟩ := r
  have hchk : errC ⟨ep, sv, pt, tb⟩ = 0 := by unfold errC; rw [if_pos hok]
  have hchk' := Lib.hid hchk
  clear hC hkin hok haf hW0 hF0 hchk
  by_cases he : er = 0
  case neg =>
    have heb : (er == 0) = false := by simpa using he
    have hec : (er != 0) = true := by simpa using he
    clear he hr hD
    go_enter Tryd.func4, Tryd.ntmps4
    go_upto_region 1 with (fail)
    rw [← hW0'.out]
    obtain ⟨o0, oz, ol⟩ := box hob'.out
    go_upto_region 4 with (first | (go_at_call 9; (with_reducible refine Calls.mono (hsh _) ?_); rintro e wX ⟨rfl, hf⟩; replace hF' := Lib.hid (hF'.out.trans hf); replace hob' := Lib.hid (hf.keep hob'.out (by simp)); obtain ⟨o0, oz, ol⟩ := box hob'.out; clear hf) | (go_at_call 13; (with_reducible refine Calls.mono (haf'.out _ hF'.out) ?_); rintro e wX ⟨a1, q1, a2, q2, rfl, hf, hcf⟩; have hcf' := Lib.hid hcf; replace hF' := Lib.hid (hF'.out.trans hf); replace hob' := Lib.hid (hf.keep hob'.out (by simp)); obtain ⟨o0, oz, ol⟩ := box hob'.out; clear hf; clear hcf))
    obtain ⟨W1, hW1⟩ : ∃ W1, W1 = wX.alloc (.cells #[.int .i64 ep, .slice a1 sv.length q1, .slice a2 pt.length q2, .int .i64 tb] 26) := ⟨_, rfl⟩
    rw [← hW1]
    have hf : Fr [] wX W1 := by rw [hW1]; exact (Fr.refl _ _).alloc _
    have hbx' : Hid (W1.heap[wX.heap.size]? = some (.cells #[.int .i64 ep, .slice a1 sv.length q1, .slice a2 pt.length q2, .int .i64 tb] 26 (0, 0))) := Lib.hid (by rw [hW1]; exact heap_alloc_new wX _)
    clear hW1
    obtain ⟨k0, kz, kl⟩ := box hbx'.out
    replace hF' := Lib.hid (hF'.out.trans hf)
    replace hcf' := Lib.hid (hcf'.out.fr0 hf)
    replace hob' := Lib.hid (hf.keep hob'.out (by simp))
    obtain ⟨o0, oz, ol⟩ := box hob'.out
    clear hf
    go_upto_region 5 with (first | (go_at_call 14; (with_reducible refine Calls.mono (apply_at (o := (0, 0, 0, 0, 0)) hcf'.out (hkin'.out.fr hF'.out (by simp)) (by omega) (by omega) hr'.out) ?_); rintro e wX ⟨b1, p1, b2, p2, rfl, hf, hcd⟩; dsimp only; have hcd' := Lib.hid hcd; replace hF' := Lib.hid (hF'.out.trans hf); replace hcf' := Lib.hid (hcf'.out.fr0 hf); replace hob' := Lib.hid (hf.keep hob'.out (by simp)); obtain ⟨o0, oz, ol⟩ := box hob'.out; replace hbx' := Lib.hid (hf.keep hbx'.out (by simp)); obtain ⟨k0, kz, kl⟩ := box hbx'.out; clear hf; clear hcd))
    obtain ⟨W2, hW2⟩ : ∃ W2, W2 = wX.alloc (.cells #[.int .i64 ep2, .slice b1 sv2.length p1, .slice b2 pt2.length p2, .int .i64 tb2] 26) := ⟨_, rfl⟩
    rw [← hW2]
    have hf : Fr [] wX W2 := by rw [hW2]; exact (Fr.refl _ _).alloc _
    have hdx' : Hid (W2.heap[wX.heap.size]? = some (.cells #[.int .i64 ep2, .slice b1 sv2.length p1, .slice b2 pt2.length p2, .int .i64 tb2] 26 (0, 0))) := Lib.hid (by rw [hW2]; exact heap_alloc_new wX _)
    clear hW2
    obtain ⟨d0, dz, dl⟩ := box hdx'.out
    replace hF' := Lib.hid (hF'.out.trans hf)
    replace hcf' := Lib.hid (hcf'.out.fr0 hf)
    replace hcd' := Lib.hid (hcd'.out.fr0 hf)
    replace hob' := Lib.hid (hf.keep hob'.out (by simp))
    obtain ⟨o0, oz, ol⟩ := box hob'.out
    replace hbx' := Lib.hid (hf.keep hbx'.out (by simp))
    obtain ⟨k0, kz, kl⟩ := box hbx'.out
    clear hf
    go_wp2_with (first | (go_at_call 17; (first | with_reducible refine Calls.mono (where_at hcf'.out hok'.out hD'.out) ?_ | with_reducible refine Calls.mono (where_at hcd'.out hod'.out hwd'.out) ?_); rintro e wX ⟨rfl, hf⟩; replace hF' := Lib.hid (hF'.out.trans hf); replace hcf' := Lib.hid (hcf'.out.fr0 hf); replace hcd' := Lib.hid (hcd'.out.fr0 hf); replace hob' := Lib.hid (hf.keep hob'.out (by simp)); obtain ⟨o0, oz, ol⟩ := box hob'.out; replace hbx' := Lib.hid (hf.keep hbx'.out (by simp)); obtain ⟨k0, kz, kl⟩ := box hbx'.out; replace hdx' := Lib.hid (hf.keep hdx'.out (by simp)); obtain ⟨d0, dz, dl⟩ := box hdx'.out; clear hf) | (go_at_call 10; (with_reducible refine Calls.mono (check_at hcf'.out (by omega) (by omega) hchk'.out) ?_); rintro e wX ⟨rfl, hf⟩; replace hF' := Lib.hid (hF'.out.trans hf); replace hcf' := Lib.hid (hcf'.out.fr0 hf); replace hcd' := Lib.hid (hcd'.out.fr0 hf); replace hob' := Lib.hid (hf.keep hob'.out (by simp)); obtain ⟨o0, oz, ol⟩ := box hob'.out; replace hbx' := Lib.hid (hf.keep hbx'.out (by simp)); obtain ⟨k0, kz, kl⟩ := box hbx'.out; replace hdx' := Lib.hid (hf.keep hdx'.out (by simp)); obtain ⟨d0, dz, dl⟩ := box hdx'.out; clear hf))
    all_goals go_ret
    all_goals exact ⟨rfl, hF'.out⟩
  subst he
  by_cases hf0 : f1 = 0
  case neg =>
    have hfb : (f1 == 0) = false := by simpa using hf0
    have hfc : (f1 != 0) = true := by simpa using hf0
    clear hf0 hr hD
    go_enter Tryd.func4, Tryd.ntmps4
    go_upto_region 1 with (fail)
    rw [← hW0'.out]
    obtain ⟨o0, oz, ol⟩ := box hob'.out
    go_upto_region 4 with (first | (go_at_call 9; (with_reducible refine Calls.mono (hsh _) ?_); rintro e wX ⟨rfl, hf⟩; replace hF' := Lib.hid (hF'.out.trans hf); replace hob' := Lib.hid (hf.keep hob'.out (by simp)); obtain ⟨o0, oz, ol⟩ := box hob'.out; clear hf) | (go_at_call 13; (with_reducible refine Calls.mono (haf'.out _ hF'.out) ?_); rintro e wX ⟨a1, q1, a2, q2, rfl, hf, hcf⟩; have hcf' := Lib.hid hcf; replace hF' := Lib.hid (hF'.out.trans hf); replace hob' := Lib.hid (hf.keep hob'.out (by simp)); obtain ⟨o0, oz, ol⟩ := box hob'.out; clear hf; clear hcf))
    obtain ⟨W1, hW1⟩ : ∃ W1, W1 = wX.alloc (.cells #[.int .i64 ep, .slice a1 sv.length q1, .slice a2 pt.length q2, .int .i64 tb] 26) := ⟨_, rfl⟩
    rw [← hW1]
    have hf : Fr [] wX W1 := by rw [hW1]; exact (Fr.refl _ _).alloc _
    have hbx' : Hid (W1.heap[wX.heap.size]? = some (.cells #[.int .i64 ep, .slice a1 sv.length q1, .slice a2 pt.length q2, .int .i64 tb] 26 (0, 0))) := Lib.hid (by rw [hW1]; exact heap_alloc_new wX _)
    clear hW1
    obtain ⟨k0, kz, kl⟩ := box hbx'.out
    replace hF' := Lib.hid (hF'.out.trans hf)
    replace hcf' := Lib.hid (hcf'.out.fr0 hf)
    replace hob' := Lib.hid (hf.keep hob'.out (by simp))
    obtain ⟨o0, oz, ol⟩ := box hob'.out
    clear hf
    go_upto_region 5 with (first | (go_at_call 14; (with_reducible refine Calls.mono (apply_at (o := (0, 0, 0, 0, 0)) hcf'.out (hkin'.out.fr hF'.out (by simp)) (by omega) (by omega) hr'.out) ?_); rintro e wX ⟨b1, p1, b2, p2, rfl, hf, hcd⟩; dsimp only; have hcd' := Lib.hid hcd; replace hF' := Lib.hid (hF'.out.trans hf); replace hcf' := Lib.hid (hcf'.out.fr0 hf); replace hob' := Lib.hid (hf.keep hob'.out (by simp)); obtain ⟨o0, oz, ol⟩ := box hob'.out; replace hbx' := Lib.hid (hf.keep hbx'.out (by simp)); obtain ⟨k0, kz, kl⟩ := box hbx'.out; clear hf; clear hcd))
    obtain ⟨W2, hW2⟩ : ∃ W2, W2 = wX.alloc (.cells #[.int .i64 ep2, .slice b1 sv2.length p1, .slice b2 pt2.length p2, .int .i64 tb2] 26) := ⟨_, rfl⟩
    rw [← hW2]
    have hf : Fr [] wX W2 := by rw [hW2]; exact (Fr.refl _ _).alloc _
    have hdx' : Hid (W2.heap[wX.heap.size]? = some (.cells #[.int .i64 ep2, .slice b1 sv2.length p1, .slice b2 pt2.length p2, .int .i64 tb2] 26 (0, 0))) := Lib.hid (by rw [hW2]; exact heap_alloc_new wX _)
    clear hW2
    obtain ⟨d0, dz, dl⟩ := box hdx'.out
    replace hF' := Lib.hid (hF'.out.trans hf)
    replace hcf' := Lib.hid (hcf'.out.fr0 hf)
    replace hcd' := Lib.hid (hcd'.out.fr0 hf)
    replace hob' := Lib.hid (hf.keep hob'.out (by simp))
    obtain ⟨o0, oz, ol⟩ := box hob'.out
    replace hbx' := Lib.hid (hf.keep hbx'.out (by simp))
    obtain ⟨k0, kz, kl⟩ := box hbx'.out
    clear hf
    go_wp2_with (first | (go_at_call 17; (first | with_reducible refine Calls.mono (where_at hcf'.out hok'.out hD'.out) ?_ | with_reducible refine Calls.mono (where_at hcd'.out hod'.out hwd'.out) ?_); rintro e wX ⟨rfl, hf⟩; replace hF' := Lib.hid (hF'.out.trans hf); replace hcf' := Lib.hid (hcf'.out.fr0 hf); replace hcd' := Lib.hid (hcd'.out.fr0 hf); replace hob' := Lib.hid (hf.keep hob'.out (by simp)); obtain ⟨o0, oz, ol⟩ := box hob'.out; replace hbx' := Lib.hid (hf.keep hbx'.out (by simp)); obtain ⟨k0, kz, kl⟩ := box hbx'.out; replace hdx' := Lib.hid (hf.keep hdx'.out (by simp)); obtain ⟨d0, dz, dl⟩ := box hdx'.out; clear hf) | (go_at_call 10; (with_reducible refine Calls.mono (check_at hcf'.out (by omega) (by omega) hchk'.out) ?_); rintro e wX ⟨rfl, hf⟩; replace hF' := Lib.hid (hF'.out.trans hf); replace hcf' := Lib.hid (hcf'.out.fr0 hf); replace hcd' := Lib.hid (hcd'.out.fr0 hf); replace hob' := Lib.hid (hf.keep hob'.out (by simp)); obtain ⟨o0, oz, ol⟩ := box hob'.out; replace hbx' := Lib.hid (hf.keep hbx'.out (by simp)); obtain ⟨k0, kz, kl⟩ := box hbx'.out; replace hdx' := Lib.hid (hf.keep hdx'.out (by simp)); obtain ⟨d0, dz, dl⟩ := box hdx'.out; clear hf))
    all_goals go_ret
    all_goals exact ⟨rfl, hF'.out⟩
  subst hf0
  have hod : okC ⟨ep2, sv2, pt2, tb2⟩ = true := by
    have := (apply_ok (c := ⟨ep, sv, pt, tb⟩) (o := (k, n, m, F, T)) (by rw [hr])).2.1
    rw [hr] at this; exact this
  have hod' := Lib.hid hod
  obtain ⟨x, y, hwd, h2, h2a, h2b, h3, hx⟩ := keeps_law (by rw [hr]) hD
  rw [hr] at hwd
  have hwd' := Lib.hid hwd
  have hsm2 := ok_small hod
  clear hr hD hod hwd
  by_cases k2 : k = 2
  · subst k2
    by_cases e1 : x1 = n
    · obtain ⟨rfl, g1, g2⟩ := h2a rfl e1
      subst e1
      have c1 : (x == x1) = false := by simpa using g1
      have c2 : (x != x1) = true := by simpa using g1
      have c3 : (y == x1) = false := by simpa using g2
      have c4 : (y != x1) = true := by simpa using g2
      clear h2 h2a h2b h3 hx g1 g2
      go_enter Tryd.func4, Tryd.ntmps4
      go_upto_region 1 with (fail)
      rw [← hW0'.out]
      obtain ⟨o0, oz, ol⟩ := box hob'.out
      go_upto_region 4 with (first | (go_at_call 9; (with_reducible refine Calls.mono (hsh _) ?_); rintro e wX ⟨rfl, hf⟩; replace hF' := Lib.hid (hF'.out.trans hf); replace hob' := Lib.hid (hf.keep hob'.out (by simp)); obtain ⟨o0, oz, ol⟩ := box hob'.out; clear hf) | (go_at_call 13; (with_reducible refine Calls.mono (haf'.out _ hF'.out) ?_); rintro e wX ⟨a1, q1, a2, q2, rfl, hf, hcf⟩; have hcf' := Lib.hid hcf; replace hF' := Lib.hid (hF'.out.trans hf); replace hob' := Lib.hid (hf.keep hob'.out (by simp)); obtain ⟨o0, oz, ol⟩ := box hob'.out; clear hf; clear hcf))
      obtain ⟨W1, hW1⟩ : ∃ W1, W1 = wX.alloc (.cells #[.int .i64 ep, .slice a1 sv.length q1, .slice a2 pt.length q2, .int .i64 tb] 26) := ⟨_, rfl⟩
      rw [← hW1]
      have hf : Fr [] wX W1 := by rw [hW1]; exact (Fr.refl _ _).alloc _
      have hbx' : Hid (W1.heap[wX.heap.size]? = some (.cells #[.int .i64 ep, .slice a1 sv.length q1, .slice a2 pt.length q2, .int .i64 tb] 26 (0, 0))) := Lib.hid (by rw [hW1]; exact heap_alloc_new wX _)
      clear hW1
      obtain ⟨k0, kz, kl⟩ := box hbx'.out
      replace hF' := Lib.hid (hF'.out.trans hf)
      replace hcf' := Lib.hid (hcf'.out.fr0 hf)
      replace hob' := Lib.hid (hf.keep hob'.out (by simp))
      obtain ⟨o0, oz, ol⟩ := box hob'.out
      clear hf
      go_upto_region 5 with (first | (go_at_call 14; (with_reducible refine Calls.mono (apply_at (o := (0, 0, 0, 0, 0)) hcf'.out (hkin'.out.fr hF'.out (by simp)) (by omega) (by omega) hr'.out) ?_); rintro e wX ⟨b1, p1, b2, p2, rfl, hf, hcd⟩; dsimp only; have hcd' := Lib.hid hcd; replace hF' := Lib.hid (hF'.out.trans hf); replace hcf' := Lib.hid (hcf'.out.fr0 hf); replace hob' := Lib.hid (hf.keep hob'.out (by simp)); obtain ⟨o0, oz, ol⟩ := box hob'.out; replace hbx' := Lib.hid (hf.keep hbx'.out (by simp)); obtain ⟨k0, kz, kl⟩ := box hbx'.out; clear hf; clear hcd))
      obtain ⟨W2, hW2⟩ : ∃ W2, W2 = wX.alloc (.cells #[.int .i64 ep2, .slice b1 sv2.length p1, .slice b2 pt2.length p2, .int .i64 tb2] 26) := ⟨_, rfl⟩
      rw [← hW2]
      have hf : Fr [] wX W2 := by rw [hW2]; exact (Fr.refl _ _).alloc _
      have hdx' : Hid (W2.heap[wX.heap.size]? = some (.cells #[.int .i64 ep2, .slice b1 sv2.length p1, .slice b2 pt2.length p2, .int .i64 tb2] 26 (0, 0))) := Lib.hid (by rw [hW2]; exact heap_alloc_new wX _)
      clear hW2
      obtain ⟨d0, dz, dl⟩ := box hdx'.out
      replace hF' := Lib.hid (hF'.out.trans hf)
      replace hcf' := Lib.hid (hcf'.out.fr0 hf)
      replace hcd' := Lib.hid (hcd'.out.fr0 hf)
      replace hob' := Lib.hid (hf.keep hob'.out (by simp))
      obtain ⟨o0, oz, ol⟩ := box hob'.out
      replace hbx' := Lib.hid (hf.keep hbx'.out (by simp))
      obtain ⟨k0, kz, kl⟩ := box hbx'.out
      clear hf
      go_wp2_with (first | (go_at_call 17; (first | with_reducible refine Calls.mono (where_at hcf'.out hok'.out hD'.out) ?_ | with_reducible refine Calls.mono (where_at hcd'.out hod'.out hwd'.out) ?_); rintro e wX ⟨rfl, hf⟩; replace hF' := Lib.hid (hF'.out.trans hf); replace hcf' := Lib.hid (hcf'.out.fr0 hf); replace hcd' := Lib.hid (hcd'.out.fr0 hf); replace hob' := Lib.hid (hf.keep hob'.out (by simp)); obtain ⟨o0, oz, ol⟩ := box hob'.out; replace hbx' := Lib.hid (hf.keep hbx'.out (by simp)); obtain ⟨k0, kz, kl⟩ := box hbx'.out; replace hdx' := Lib.hid (hf.keep hdx'.out (by simp)); obtain ⟨d0, dz, dl⟩ := box hdx'.out; clear hf) | (go_at_call 10; (with_reducible refine Calls.mono (check_at hcf'.out (by omega) (by omega) hchk'.out) ?_); rintro e wX ⟨rfl, hf⟩; replace hF' := Lib.hid (hF'.out.trans hf); replace hcf' := Lib.hid (hcf'.out.fr0 hf); replace hcd' := Lib.hid (hcd'.out.fr0 hf); replace hob' := Lib.hid (hf.keep hob'.out (by simp)); obtain ⟨o0, oz, ol⟩ := box hob'.out; replace hbx' := Lib.hid (hf.keep hbx'.out (by simp)); obtain ⟨k0, kz, kl⟩ := box hbx'.out; replace hdx' := Lib.hid (hf.keep hdx'.out (by simp)); obtain ⟨d0, dz, dl⟩ := box hdx'.out; clear hf))
      all_goals go_ret
      all_goals exact ⟨rfl, hF'.out⟩
    · by_cases e2 : y1 = n
      · obtain ⟨rfl, g1, g2⟩ := h2b rfl e2
        subst e2
        have c1 : (x == y1) = false := by simpa using g1
        have c2 : (x != y1) = true := by simpa using g1
        have c3 : (y == y1) = false := by simpa using g2
        have c4 : (y != y1) = true := by simpa using g2
        clear h2 h2a h2b h3 hx g1 g2 e1
        go_enter Tryd.func4, Tryd.ntmps4
        go_upto_region 1 with (fail)
        rw [← hW0'.out]
        obtain ⟨o0, oz, ol⟩ := box hob'.out
        go_upto_region 4 with (first | (go_at_call 9; (with_reducible refine Calls.mono (hsh _) ?_); rintro e wX ⟨rfl, hf⟩; replace hF' := Lib.hid (hF'.out.trans hf); replace hob' := Lib.hid (hf.keep hob'.out (by simp)); obtain ⟨o0, oz, ol⟩ := box hob'.out; clear hf) | (go_at_call 13; (with_reducible refine Calls.mono (haf'.out _ hF'.out) ?_); rintro e wX ⟨a1, q1, a2, q2, rfl, hf, hcf⟩; have hcf' := Lib.hid hcf; replace hF' := Lib.hid (hF'.out.trans hf); replace hob' := Lib.hid (hf.keep hob'.out (by simp)); obtain ⟨o0, oz, ol⟩ := box hob'.out; clear hf; clear hcf))
        obtain ⟨W1, hW1⟩ : ∃ W1, W1 = wX.alloc (.cells #[.int .i64 ep, .slice a1 sv.length q1, .slice a2 pt.length q2, .int .i64 tb] 26) := ⟨_, rfl⟩
        rw [← hW1]
        have hf : Fr [] wX W1 := by rw [hW1]; exact (Fr.refl _ _).alloc _
        have hbx' : Hid (W1.heap[wX.heap.size]? = some (.cells #[.int .i64 ep, .slice a1 sv.length q1, .slice a2 pt.length q2, .int .i64 tb] 26 (0, 0))) := Lib.hid (by rw [hW1]; exact heap_alloc_new wX _)
        clear hW1
        obtain ⟨k0, kz, kl⟩ := box hbx'.out
        replace hF' := Lib.hid (hF'.out.trans hf)
        replace hcf' := Lib.hid (hcf'.out.fr0 hf)
        replace hob' := Lib.hid (hf.keep hob'.out (by simp))
        obtain ⟨o0, oz, ol⟩ := box hob'.out
        clear hf
        go_upto_region 5 with (first | (go_at_call 14; (with_reducible refine Calls.mono (apply_at (o := (0, 0, 0, 0, 0)) hcf'.out (hkin'.out.fr hF'.out (by simp)) (by omega) (by omega) hr'.out) ?_); rintro e wX ⟨b1, p1, b2, p2, rfl, hf, hcd⟩; dsimp only; have hcd' := Lib.hid hcd; replace hF' := Lib.hid (hF'.out.trans hf); replace hcf' := Lib.hid (hcf'.out.fr0 hf); replace hob' := Lib.hid (hf.keep hob'.out (by simp)); obtain ⟨o0, oz, ol⟩ := box hob'.out; replace hbx' := Lib.hid (hf.keep hbx'.out (by simp)); obtain ⟨k0, kz, kl⟩ := box hbx'.out; clear hf; clear hcd))
        obtain ⟨W2, hW2⟩ : ∃ W2, W2 = wX.alloc (.cells #[.int .i64 ep2, .slice b1 sv2.length p1, .slice b2 pt2.length p2, .int .i64 tb2] 26) := ⟨_, rfl⟩
        rw [← hW2]
        have hf : Fr [] wX W2 := by rw [hW2]; exact (Fr.refl _ _).alloc _
        have hdx' : Hid (W2.heap[wX.heap.size]? = some (.cells #[.int .i64 ep2, .slice b1 sv2.length p1, .slice b2 pt2.length p2, .int .i64 tb2] 26 (0, 0))) := Lib.hid (by rw [hW2]; exact heap_alloc_new wX _)
        clear hW2
        obtain ⟨d0, dz, dl⟩ := box hdx'.out
        replace hF' := Lib.hid (hF'.out.trans hf)
        replace hcf' := Lib.hid (hcf'.out.fr0 hf)
        replace hcd' := Lib.hid (hcd'.out.fr0 hf)
        replace hob' := Lib.hid (hf.keep hob'.out (by simp))
        obtain ⟨o0, oz, ol⟩ := box hob'.out
        replace hbx' := Lib.hid (hf.keep hbx'.out (by simp))
        obtain ⟨k0, kz, kl⟩ := box hbx'.out
        clear hf
        go_wp2_with (first | (go_at_call 17; (first | with_reducible refine Calls.mono (where_at hcf'.out hok'.out hD'.out) ?_ | with_reducible refine Calls.mono (where_at hcd'.out hod'.out hwd'.out) ?_); rintro e wX ⟨rfl, hf⟩; replace hF' := Lib.hid (hF'.out.trans hf); replace hcf' := Lib.hid (hcf'.out.fr0 hf); replace hcd' := Lib.hid (hcd'.out.fr0 hf); replace hob' := Lib.hid (hf.keep hob'.out (by simp)); obtain ⟨o0, oz, ol⟩ := box hob'.out; replace hbx' := Lib.hid (hf.keep hbx'.out (by simp)); obtain ⟨k0, kz, kl⟩ := box hbx'.out; replace hdx' := Lib.hid (hf.keep hdx'.out (by simp)); obtain ⟨d0, dz, dl⟩ := box hdx'.out; clear hf) | (go_at_call 10; (with_reducible refine Calls.mono (check_at hcf'.out (by omega) (by omega) hchk'.out) ?_); rintro e wX ⟨rfl, hf⟩; replace hF' := Lib.hid (hF'.out.trans hf); replace hcf' := Lib.hid (hcf'.out.fr0 hf); replace hcd' := Lib.hid (hcd'.out.fr0 hf); replace hob' := Lib.hid (hf.keep hob'.out (by simp)); obtain ⟨o0, oz, ol⟩ := box hob'.out; replace hbx' := Lib.hid (hf.keep hbx'.out (by simp)); obtain ⟨k0, kz, kl⟩ := box hbx'.out; replace hdx' := Lib.hid (hf.keep hdx'.out (by simp)); obtain ⟨d0, dz, dl⟩ := box hdx'.out; clear hf))
        all_goals go_ret
        all_goals exact ⟨rfl, hF'.out⟩
      · obtain ⟨rfl, rfl⟩ := h2 rfl e1 e2
        have c1 : (x == n) = false := by simpa using e1
        have c2 : (x != n) = true := by simpa using e1
        have c3 : (y == n) = false := by simpa using e2
        have c4 : (y != n) = true := by simpa using e2
        clear h2 h2a h2b h3 hx e1 e2
        go_enter Tryd.func4, Tryd.ntmps4
        go_upto_region 1 with (fail)
        rw [← hW0'.out]
        obtain ⟨o0, oz, ol⟩ := box hob'.out
        go_upto_region 4 with (first | (go_at_call 9; (with_reducible refine Calls.mono (hsh _) ?_); rintro e wX ⟨rfl, hf⟩; replace hF' := Lib.hid (hF'.out.trans hf); replace hob' := Lib.hid (hf.keep hob'.out (by simp)); obtain ⟨o0, oz, ol⟩ := box hob'.out; clear hf) | (go_at_call 13; (with_reducible refine Calls.mono (haf'.out _ hF'.out) ?_); rintro e wX ⟨a1, q1, a2, q2, rfl, hf, hcf⟩; have hcf' := Lib.hid hcf; replace hF' := Lib.hid (hF'.out.trans hf); replace hob' := Lib.hid (hf.keep hob'.out (by simp)); obtain ⟨o0, oz, ol⟩ := box hob'.out; clear hf; clear hcf))
        obtain ⟨W1, hW1⟩ : ∃ W1, W1 = wX.alloc (.cells #[.int .i64 ep, .slice a1 sv.length q1, .slice a2 pt.length q2, .int .i64 tb] 26) := ⟨_, rfl⟩
        rw [← hW1]
        have hf : Fr [] wX W1 := by rw [hW1]; exact (Fr.refl _ _).alloc _
        have hbx' : Hid (W1.heap[wX.heap.size]? = some (.cells #[.int .i64 ep, .slice a1 sv.length q1, .slice a2 pt.length q2, .int .i64 tb] 26 (0, 0))) := Lib.hid (by rw [hW1]; exact heap_alloc_new wX _)
        clear hW1
        obtain ⟨k0, kz, kl⟩ := box hbx'.out
        replace hF' := Lib.hid (hF'.out.trans hf)
        replace hcf' := Lib.hid (hcf'.out.fr0 hf)
        replace hob' := Lib.hid (hf.keep hob'.out (by simp))
        obtain ⟨o0, oz, ol⟩ := box hob'.out
        clear hf
        go_upto_region 5 with (first | (go_at_call 14; (with_reducible refine Calls.mono (apply_at (o := (0, 0, 0, 0, 0)) hcf'.out (hkin'.out.fr hF'.out (by simp)) (by omega) (by omega) hr'.out) ?_); rintro e wX ⟨b1, p1, b2, p2, rfl, hf, hcd⟩; dsimp only; have hcd' := Lib.hid hcd; replace hF' := Lib.hid (hF'.out.trans hf); replace hcf' := Lib.hid (hcf'.out.fr0 hf); replace hob' := Lib.hid (hf.keep hob'.out (by simp)); obtain ⟨o0, oz, ol⟩ := box hob'.out; replace hbx' := Lib.hid (hf.keep hbx'.out (by simp)); obtain ⟨k0, kz, kl⟩ := box hbx'.out; clear hf; clear hcd))
        obtain ⟨W2, hW2⟩ : ∃ W2, W2 = wX.alloc (.cells #[.int .i64 ep2, .slice b1 sv2.length p1, .slice b2 pt2.length p2, .int .i64 tb2] 26) := ⟨_, rfl⟩
        rw [← hW2]
        have hf : Fr [] wX W2 := by rw [hW2]; exact (Fr.refl _ _).alloc _
        have hdx' : Hid (W2.heap[wX.heap.size]? = some (.cells #[.int .i64 ep2, .slice b1 sv2.length p1, .slice b2 pt2.length p2, .int .i64 tb2] 26 (0, 0))) := Lib.hid (by rw [hW2]; exact heap_alloc_new wX _)
        clear hW2
        obtain ⟨d0, dz, dl⟩ := box hdx'.out
        replace hF' := Lib.hid (hF'.out.trans hf)
        replace hcf' := Lib.hid (hcf'.out.fr0 hf)
        replace hcd' := Lib.hid (hcd'.out.fr0 hf)
        replace hob' := Lib.hid (hf.keep hob'.out (by simp))
        obtain ⟨o0, oz, ol⟩ := box hob'.out
        replace hbx' := Lib.hid (hf.keep hbx'.out (by simp))
        obtain ⟨k0, kz, kl⟩ := box hbx'.out
        clear hf
        go_wp2_with (first | (go_at_call 17; (first | with_reducible refine Calls.mono (where_at hcf'.out hok'.out hD'.out) ?_ | with_reducible refine Calls.mono (where_at hcd'.out hod'.out hwd'.out) ?_); rintro e wX ⟨rfl, hf⟩; replace hF' := Lib.hid (hF'.out.trans hf); replace hcf' := Lib.hid (hcf'.out.fr0 hf); replace hcd' := Lib.hid (hcd'.out.fr0 hf); replace hob' := Lib.hid (hf.keep hob'.out (by simp)); obtain ⟨o0, oz, ol⟩ := box hob'.out; replace hbx' := Lib.hid (hf.keep hbx'.out (by simp)); obtain ⟨k0, kz, kl⟩ := box hbx'.out; replace hdx' := Lib.hid (hf.keep hdx'.out (by simp)); obtain ⟨d0, dz, dl⟩ := box hdx'.out; clear hf) | (go_at_call 10; (with_reducible refine Calls.mono (check_at hcf'.out (by omega) (by omega) hchk'.out) ?_); rintro e wX ⟨rfl, hf⟩; replace hF' := Lib.hid (hF'.out.trans hf); replace hcf' := Lib.hid (hcf'.out.fr0 hf); replace hcd' := Lib.hid (hcd'.out.fr0 hf); replace hob' := Lib.hid (hf.keep hob'.out (by simp)); obtain ⟨o0, oz, ol⟩ := box hob'.out; replace hbx' := Lib.hid (hf.keep hbx'.out (by simp)); obtain ⟨k0, kz, kl⟩ := box hbx'.out; replace hdx' := Lib.hid (hf.keep hdx'.out (by simp)); obtain ⟨d0, dz, dl⟩ := box hdx'.out; clear hf))
        all_goals go_ret
        all_goals exact ⟨rfl, hF'.out⟩
  have k2b : (k == 2) = false := by simpa using k2
  by_cases k3 : k = 3
  · subst k3
    by_cases e1 : F ≤ b ∧ b < T
    · obtain ⟨rfl, rfl⟩ := h3 rfl e1
      obtain ⟨e1, e2⟩ := e1
      clear h2 h2a h2b h3 hx k2 k2b
      go_enter Tryd.func4, Tryd.ntmps4
      go_upto_region 1 with (fail)
      rw [← hW0'.out]
      obtain ⟨o0, oz, ol⟩ := box hob'.out
      go_upto_region 4 with (first | (go_at_call 9; (with_reducible refine Calls.mono (hsh _) ?_); rintro e wX ⟨rfl, hf⟩; replace hF' := Lib.hid (hF'.out.trans hf); replace hob' := Lib.hid (hf.keep hob'.out (by simp)); obtain ⟨o0, oz, ol⟩ := box hob'.out; clear hf) | (go_at_call 13; (with_reducible refine Calls.mono (haf'.out _ hF'.out) ?_); rintro e wX ⟨a1, q1, a2, q2, rfl, hf, hcf⟩; have hcf' := Lib.hid hcf; replace hF' := Lib.hid (hF'.out.trans hf); replace hob' := Lib.hid (hf.keep hob'.out (by simp)); obtain ⟨o0, oz, ol⟩ := box hob'.out; clear hf; clear hcf))
      obtain ⟨W1, hW1⟩ : ∃ W1, W1 = wX.alloc (.cells #[.int .i64 ep, .slice a1 sv.length q1, .slice a2 pt.length q2, .int .i64 tb] 26) := ⟨_, rfl⟩
      rw [← hW1]
      have hf : Fr [] wX W1 := by rw [hW1]; exact (Fr.refl _ _).alloc _
      have hbx' : Hid (W1.heap[wX.heap.size]? = some (.cells #[.int .i64 ep, .slice a1 sv.length q1, .slice a2 pt.length q2, .int .i64 tb] 26 (0, 0))) := Lib.hid (by rw [hW1]; exact heap_alloc_new wX _)
      clear hW1
      obtain ⟨k0, kz, kl⟩ := box hbx'.out
      replace hF' := Lib.hid (hF'.out.trans hf)
      replace hcf' := Lib.hid (hcf'.out.fr0 hf)
      replace hob' := Lib.hid (hf.keep hob'.out (by simp))
      obtain ⟨o0, oz, ol⟩ := box hob'.out
      clear hf
      go_upto_region 5 with (first | (go_at_call 14; (with_reducible refine Calls.mono (apply_at (o := (0, 0, 0, 0, 0)) hcf'.out (hkin'.out.fr hF'.out (by simp)) (by omega) (by omega) hr'.out) ?_); rintro e wX ⟨b1, p1, b2, p2, rfl, hf, hcd⟩; dsimp only; have hcd' := Lib.hid hcd; replace hF' := Lib.hid (hF'.out.trans hf); replace hcf' := Lib.hid (hcf'.out.fr0 hf); replace hob' := Lib.hid (hf.keep hob'.out (by simp)); obtain ⟨o0, oz, ol⟩ := box hob'.out; replace hbx' := Lib.hid (hf.keep hbx'.out (by simp)); obtain ⟨k0, kz, kl⟩ := box hbx'.out; clear hf; clear hcd))
      obtain ⟨W2, hW2⟩ : ∃ W2, W2 = wX.alloc (.cells #[.int .i64 ep2, .slice b1 sv2.length p1, .slice b2 pt2.length p2, .int .i64 tb2] 26) := ⟨_, rfl⟩
      rw [← hW2]
      have hf : Fr [] wX W2 := by rw [hW2]; exact (Fr.refl _ _).alloc _
      have hdx' : Hid (W2.heap[wX.heap.size]? = some (.cells #[.int .i64 ep2, .slice b1 sv2.length p1, .slice b2 pt2.length p2, .int .i64 tb2] 26 (0, 0))) := Lib.hid (by rw [hW2]; exact heap_alloc_new wX _)
      clear hW2
      obtain ⟨d0, dz, dl⟩ := box hdx'.out
      replace hF' := Lib.hid (hF'.out.trans hf)
      replace hcf' := Lib.hid (hcf'.out.fr0 hf)
      replace hcd' := Lib.hid (hcd'.out.fr0 hf)
      replace hob' := Lib.hid (hf.keep hob'.out (by simp))
      obtain ⟨o0, oz, ol⟩ := box hob'.out
      replace hbx' := Lib.hid (hf.keep hbx'.out (by simp))
      obtain ⟨k0, kz, kl⟩ := box hbx'.out
      clear hf
      go_wp2_with (first | (go_at_call 17; (first | with_reducible refine Calls.mono (where_at hcf'.out hok'.out hD'.out) ?_ | with_reducible refine Calls.mono (where_at hcd'.out hod'.out hwd'.out) ?_); rintro e wX ⟨rfl, hf⟩; replace hF' := Lib.hid (hF'.out.trans hf); replace hcf' := Lib.hid (hcf'.out.fr0 hf); replace hcd' := Lib.hid (hcd'.out.fr0 hf); replace hob' := Lib.hid (hf.keep hob'.out (by simp)); obtain ⟨o0, oz, ol⟩ := box hob'.out; replace hbx' := Lib.hid (hf.keep hbx'.out (by simp)); obtain ⟨k0, kz, kl⟩ := box hbx'.out; replace hdx' := Lib.hid (hf.keep hdx'.out (by simp)); obtain ⟨d0, dz, dl⟩ := box hdx'.out; clear hf) | (go_at_call 10; (with_reducible refine Calls.mono (check_at hcf'.out (by omega) (by omega) hchk'.out) ?_); rintro e wX ⟨rfl, hf⟩; replace hF' := Lib.hid (hF'.out.trans hf); replace hcf' := Lib.hid (hcf'.out.fr0 hf); replace hcd' := Lib.hid (hcd'.out.fr0 hf); replace hob' := Lib.hid (hf.keep hob'.out (by simp)); obtain ⟨o0, oz, ol⟩ := box hob'.out; replace hbx' := Lib.hid (hf.keep hbx'.out (by simp)); obtain ⟨k0, kz, kl⟩ := box hbx'.out; replace hdx' := Lib.hid (hf.keep hdx'.out (by simp)); obtain ⟨d0, dz, dl⟩ := box hdx'.out; clear hf))
      all_goals go_ret
      all_goals exact ⟨rfl, hF'.out⟩
    · obtain ⟨rfl, rfl⟩ := hx k2 (fun _ => e1)
      clear h2 h2a h2b h3 hx k2 k2b
      by_cases e2 : F ≤ b
      · have e3 : ¬ b < T := fun h => e1 ⟨e2, h⟩
        clear e1
        go_enter Tryd.func4, Tryd.ntmps4
        go_upto_region 1 with (fail)
        rw [← hW0'.out]
        obtain ⟨o0, oz, ol⟩ := box hob'.out
        go_upto_region 4 with (first | (go_at_call 9; (with_reducible refine Calls.mono (hsh _) ?_); rintro e wX ⟨rfl, hf⟩; replace hF' := Lib.hid (hF'.out.trans hf); replace hob' := Lib.hid (hf.keep hob'.out (by simp)); obtain ⟨o0, oz, ol⟩ := box hob'.out; clear hf) | (go_at_call 13; (with_reducible refine Calls.mono (haf'.out _ hF'.out) ?_); rintro e wX ⟨a1, q1, a2, q2, rfl, hf, hcf⟩; have hcf' := Lib.hid hcf; replace hF' := Lib.hid (hF'.out.trans hf); replace hob' := Lib.hid (hf.keep hob'.out (by simp)); obtain ⟨o0, oz, ol⟩ := box hob'.out; clear hf; clear hcf))
        obtain ⟨W1, hW1⟩ : ∃ W1, W1 = wX.alloc (.cells #[.int .i64 ep, .slice a1 sv.length q1, .slice a2 pt.length q2, .int .i64 tb] 26) := ⟨_, rfl⟩
        rw [← hW1]
        have hf : Fr [] wX W1 := by rw [hW1]; exact (Fr.refl _ _).alloc _
        have hbx' : Hid (W1.heap[wX.heap.size]? = some (.cells #[.int .i64 ep, .slice a1 sv.length q1, .slice a2 pt.length q2, .int .i64 tb] 26 (0, 0))) := Lib.hid (by rw [hW1]; exact heap_alloc_new wX _)
        clear hW1
        obtain ⟨k0, kz, kl⟩ := box hbx'.out
        replace hF' := Lib.hid (hF'.out.trans hf)
        replace hcf' := Lib.hid (hcf'.out.fr0 hf)
        replace hob' := Lib.hid (hf.keep hob'.out (by simp))
        obtain ⟨o0, oz, ol⟩ := box hob'.out
        clear hf
        go_upto_region 5 with (first | (go_at_call 14; (with_reducible refine Calls.mono (apply_at (o := (0, 0, 0, 0, 0)) hcf'.out (hkin'.out.fr hF'.out (by simp)) (by omega) (by omega) hr'.out) ?_); rintro e wX ⟨b1, p1, b2, p2, rfl, hf, hcd⟩; dsimp only; have hcd' := Lib.hid hcd; replace hF' := Lib.hid (hF'.out.trans hf); replace hcf' := Lib.hid (hcf'.out.fr0 hf); replace hob' := Lib.hid (hf.keep hob'.out (by simp)); obtain ⟨o0, oz, ol⟩ := box hob'.out; replace hbx' := Lib.hid (hf.keep hbx'.out (by simp)); obtain ⟨k0, kz, kl⟩ := box hbx'.out; clear hf; clear hcd))
        obtain ⟨W2, hW2⟩ : ∃ W2, W2 = wX.alloc (.cells #[.int .i64 ep2, .slice b1 sv2.length p1, .slice b2 pt2.length p2, .int .i64 tb2] 26) := ⟨_, rfl⟩
        rw [← hW2]
        have hf : Fr [] wX W2 := by rw [hW2]; exact (Fr.refl _ _).alloc _
        have hdx' : Hid (W2.heap[wX.heap.size]? = some (.cells #[.int .i64 ep2, .slice b1 sv2.length p1, .slice b2 pt2.length p2, .int .i64 tb2] 26 (0, 0))) := Lib.hid (by rw [hW2]; exact heap_alloc_new wX _)
        clear hW2
        obtain ⟨d0, dz, dl⟩ := box hdx'.out
        replace hF' := Lib.hid (hF'.out.trans hf)
        replace hcf' := Lib.hid (hcf'.out.fr0 hf)
        replace hcd' := Lib.hid (hcd'.out.fr0 hf)
        replace hob' := Lib.hid (hf.keep hob'.out (by simp))
        obtain ⟨o0, oz, ol⟩ := box hob'.out
        replace hbx' := Lib.hid (hf.keep hbx'.out (by simp))
        obtain ⟨k0, kz, kl⟩ := box hbx'.out
        clear hf
        go_wp2_with (first | (go_at_call 17; (first | with_reducible refine Calls.mono (where_at hcf'.out hok'.out hD'.out) ?_ | with_reducible refine Calls.mono (where_at hcd'.out hod'.out hwd'.out) ?_); rintro e wX ⟨rfl, hf⟩; replace hF' := Lib.hid (hF'.out.trans hf); replace hcf' := Lib.hid (hcf'.out.fr0 hf); replace hcd' := Lib.hid (hcd'.out.fr0 hf); replace hob' := Lib.hid (hf.keep hob'.out (by simp)); obtain ⟨o0, oz, ol⟩ := box hob'.out; replace hbx' := Lib.hid (hf.keep hbx'.out (by simp)); obtain ⟨k0, kz, kl⟩ := box hbx'.out; replace hdx' := Lib.hid (hf.keep hdx'.out (by simp)); obtain ⟨d0, dz, dl⟩ := box hdx'.out; clear hf) | (go_at_call 10; (with_reducible refine Calls.mono (check_at hcf'.out (by omega) (by omega) hchk'.out) ?_); rintro e wX ⟨rfl, hf⟩; replace hF' := Lib.hid (hF'.out.trans hf); replace hcf' := Lib.hid (hcf'.out.fr0 hf); replace hcd' := Lib.hid (hcd'.out.fr0 hf); replace hob' := Lib.hid (hf.keep hob'.out (by simp)); obtain ⟨o0, oz, ol⟩ := box hob'.out; replace hbx' := Lib.hid (hf.keep hbx'.out (by simp)); obtain ⟨k0, kz, kl⟩ := box hbx'.out; replace hdx' := Lib.hid (hf.keep hdx'.out (by simp)); obtain ⟨d0, dz, dl⟩ := box hdx'.out; clear hf))
        all_goals go_ret
        all_goals exact ⟨rfl, hF'.out⟩
      · clear e1
        go_enter Tryd.func4, Tryd.ntmps4
        go_upto_region 1 with (fail)
        rw [← hW0'.out]
        obtain ⟨o0, oz, ol⟩ := box hob'.out
        go_upto_region 4 with (first | (go_at_call 9; (with_reducible refine Calls.mono (hsh _) ?_); rintro e wX ⟨rfl, hf⟩; replace hF' := Lib.hid (hF'.out.trans hf); replace hob' := Lib.hid (hf.keep hob'.out (by simp)); obtain ⟨o0, oz, ol⟩ := box hob'.out; clear hf) | (go_at_call 13; (with_reducible refine Calls.mono (haf'.out _ hF'.out) ?_); rintro e wX ⟨a1, q1, a2, q2, rfl, hf, hcf⟩; have hcf' := Lib.hid hcf; replace hF' := Lib.hid (hF'.out.trans hf); replace hob' := Lib.hid (hf.keep hob'.out (by simp)); obtain ⟨o0, oz, ol⟩ := box hob'.out; clear hf; clear hcf))
        obtain ⟨W1, hW1⟩ : ∃ W1, W1 = wX.alloc (.cells #[.int .i64 ep, .slice a1 sv.length q1, .slice a2 pt.length q2, .int .i64 tb] 26) := ⟨_, rfl⟩
        rw [← hW1]
        have hf : Fr [] wX W1 := by rw [hW1]; exact (Fr.refl _ _).alloc _
        have hbx' : Hid (W1.heap[wX.heap.size]? = some (.cells #[.int .i64 ep, .slice a1 sv.length q1, .slice a2 pt.length q2, .int .i64 tb] 26 (0, 0))) := Lib.hid (by rw [hW1]; exact heap_alloc_new wX _)
        clear hW1
        obtain ⟨k0, kz, kl⟩ := box hbx'.out
        replace hF' := Lib.hid (hF'.out.trans hf)
        replace hcf' := Lib.hid (hcf'.out.fr0 hf)
        replace hob' := Lib.hid (hf.keep hob'.out (by simp))
        obtain ⟨o0, oz, ol⟩ := box hob'.out
        clear hf
        go_upto_region 5 with (first | (go_at_call 14; (with_reducible refine Calls.mono (apply_at (o := (0, 0, 0, 0, 0)) hcf'.out (hkin'.out.fr hF'.out (by simp)) (by omega) (by omega) hr'.out) ?_); rintro e wX ⟨b1, p1, b2, p2, rfl, hf, hcd⟩; dsimp only; have hcd' := Lib.hid hcd; replace hF' := Lib.hid (hF'.out.trans hf); replace hcf' := Lib.hid (hcf'.out.fr0 hf); replace hob' := Lib.hid (hf.keep hob'.out (by simp)); obtain ⟨o0, oz, ol⟩ := box hob'.out; replace hbx' := Lib.hid (hf.keep hbx'.out (by simp)); obtain ⟨k0, kz, kl⟩ := box hbx'.out; clear hf; clear hcd))
        obtain ⟨W2, hW2⟩ : ∃ W2, W2 = wX.alloc (.cells #[.int .i64 ep2, .slice b1 sv2.length p1, .slice b2 pt2.length p2, .int .i64 tb2] 26) := ⟨_, rfl⟩
        rw [← hW2]
        have hf : Fr [] wX W2 := by rw [hW2]; exact (Fr.refl _ _).alloc _
        have hdx' : Hid (W2.heap[wX.heap.size]? = some (.cells #[.int .i64 ep2, .slice b1 sv2.length p1, .slice b2 pt2.length p2, .int .i64 tb2] 26 (0, 0))) := Lib.hid (by rw [hW2]; exact heap_alloc_new wX _)
        clear hW2
        obtain ⟨d0, dz, dl⟩ := box hdx'.out
        replace hF' := Lib.hid (hF'.out.trans hf)
        replace hcf' := Lib.hid (hcf'.out.fr0 hf)
        replace hcd' := Lib.hid (hcd'.out.fr0 hf)
        replace hob' := Lib.hid (hf.keep hob'.out (by simp))
        obtain ⟨o0, oz, ol⟩ := box hob'.out
        replace hbx' := Lib.hid (hf.keep hbx'.out (by simp))
        obtain ⟨k0, kz, kl⟩ := box hbx'.out
        clear hf
        go_wp2_with (first | (go_at_call 17; (first | with_reducible refine Calls.mono (where_at hcf'.out hok'.out hD'.out) ?_ | with_reducible refine Calls.mono (where_at hcd'.out hod'.out hwd'.out) ?_); rintro e wX ⟨rfl, hf⟩; replace hF' := Lib.hid (hF'.out.trans hf); replace hcf' := Lib.hid (hcf'.out.fr0 hf); replace hcd' := Lib.hid (hcd'.out.fr0 hf); replace hob' := Lib.hid (hf.keep hob'.out (by simp)); obtain ⟨o0, oz, ol⟩ := box hob'.out; replace hbx' := Lib.hid (hf.keep hbx'.out (by simp)); obtain ⟨k0, kz, kl⟩ := box hbx'.out; replace hdx' := Lib.hid (hf.keep hdx'.out (by simp)); obtain ⟨d0, dz, dl⟩ := box hdx'.out; clear hf) | (go_at_call 10; (with_reducible refine Calls.mono (check_at hcf'.out (by omega) (by omega) hchk'.out) ?_); rintro e wX ⟨rfl, hf⟩; replace hF' := Lib.hid (hF'.out.trans hf); replace hcf' := Lib.hid (hcf'.out.fr0 hf); replace hcd' := Lib.hid (hcd'.out.fr0 hf); replace hob' := Lib.hid (hf.keep hob'.out (by simp)); obtain ⟨o0, oz, ol⟩ := box hob'.out; replace hbx' := Lib.hid (hf.keep hbx'.out (by simp)); obtain ⟨k0, kz, kl⟩ := box hbx'.out; replace hdx' := Lib.hid (hf.keep hdx'.out (by simp)); obtain ⟨d0, dz, dl⟩ := box hdx'.out; clear hf))
        all_goals go_ret
        all_goals exact ⟨rfl, hF'.out⟩
  have k3b : (k == 3) = false := by simpa using k3
  obtain ⟨rfl, rfl⟩ := hx k2 (fun h => absurd h k3)
  clear h2 h2a h2b h3 hx k2 k3
  go_enter Tryd.func4, Tryd.ntmps4
  go_upto_region 1 with (fail)
  rw [← hW0'.out]
  obtain ⟨o0, oz, ol⟩ := box hob'.out
  go_upto_region 4 with (first | (go_at_call 9; (with_reducible refine Calls.mono (hsh _) ?_); rintro e wX ⟨rfl, hf⟩; replace hF' := Lib.hid (hF'.out.trans hf); replace hob' := Lib.hid (hf.keep hob'.out (by simp)); obtain ⟨o0, oz, ol⟩ := box hob'.out; clear hf) | (go_at_call 13; (with_reducible refine Calls.mono (haf'.out _ hF'.out) ?_); rintro e wX ⟨a1, q1, a2, q2, rfl, hf, hcf⟩; have hcf' := Lib.hid hcf; replace hF' := Lib.hid (hF'.out.trans hf); replace hob' := Lib.hid (hf.keep hob'.out (by simp)); obtain ⟨o0, oz, ol⟩ := box hob'.out; clear hf; clear hcf))
  obtain ⟨W1, hW1⟩ : ∃ W1, W1 = wX.alloc (.cells #[.int .i64 ep, .slice a1 sv.length q1, .slice a2 pt.length q2, .int .i64 tb] 26) := ⟨_, rfl⟩
  rw [← hW1]
  have hf : Fr [] wX W1 := by rw [hW1]; exact (Fr.refl _ _).alloc _
  have hbx' : Hid (W1.heap[wX.heap.size]? = some (.cells #[.int .i64 ep, .slice a1 sv.length q1, .slice a2 pt.length q2, .int .i64 tb] 26 (0, 0))) := Lib.hid (by rw [hW1]; exact heap_alloc_new wX _)
  clear hW1
  obtain ⟨k0, kz, kl⟩ := box hbx'.out
  replace hF' := Lib.hid (hF'.out.trans hf)
  replace hcf' := Lib.hid (hcf'.out.fr0 hf)
  replace hob' := Lib.hid (hf.keep hob'.out (by simp))
  obtain ⟨o0, oz, ol⟩ := box hob'.out
  clear hf
  go_upto_region 5 with (first | (go_at_call 14; (with_reducible refine Calls.mono (apply_at (o := (0, 0, 0, 0, 0)) hcf'.out (hkin'.out.fr hF'.out (by simp)) (by omega) (by omega) hr'.out) ?_); rintro e wX ⟨b1, p1, b2, p2, rfl, hf, hcd⟩; dsimp only; have hcd' := Lib.hid hcd; replace hF' := Lib.hid (hF'.out.trans hf); replace hcf' := Lib.hid (hcf'.out.fr0 hf); replace hob' := Lib.hid (hf.keep hob'.out (by simp)); obtain ⟨o0, oz, ol⟩ := box hob'.out; replace hbx' := Lib.hid (hf.keep hbx'.out (by simp)); obtain ⟨k0, kz, kl⟩ := box hbx'.out; clear hf; clear hcd))
  obtain ⟨W2, hW2⟩ : ∃ W2, W2 = wX.alloc (.cells #[.int .i64 ep2, .slice b1 sv2.length p1, .slice b2 pt2.length p2, .int .i64 tb2] 26) := ⟨_, rfl⟩
  rw [← hW2]
  have hf : Fr [] wX W2 := by rw [hW2]; exact (Fr.refl _ _).alloc _
  have hdx' : Hid (W2.heap[wX.heap.size]? = some (.cells #[.int .i64 ep2, .slice b1 sv2.length p1, .slice b2 pt2.length p2, .int .i64 tb2] 26 (0, 0))) := Lib.hid (by rw [hW2]; exact heap_alloc_new wX _)
  clear hW2
  obtain ⟨d0, dz, dl⟩ := box hdx'.out
  replace hF' := Lib.hid (hF'.out.trans hf)
  replace hcf' := Lib.hid (hcf'.out.fr0 hf)
  replace hcd' := Lib.hid (hcd'.out.fr0 hf)
  replace hob' := Lib.hid (hf.keep hob'.out (by simp))
  obtain ⟨o0, oz, ol⟩ := box hob'.out
  replace hbx' := Lib.hid (hf.keep hbx'.out (by simp))
  obtain ⟨k0, kz, kl⟩ := box hbx'.out
  clear hf
  go_wp2_with (first | (go_at_call 17; (first | with_reducible refine Calls.mono (where_at hcf'.out hok'.out hD'.out) ?_ | with_reducible refine Calls.mono (where_at hcd'.out hod'.out hwd'.out) ?_); rintro e wX ⟨rfl, hf⟩; replace hF' := Lib.hid (hF'.out.trans hf); replace hcf' := Lib.hid (hcf'.out.fr0 hf); replace hcd' := Lib.hid (hcd'.out.fr0 hf); replace hob' := Lib.hid (hf.keep hob'.out (by simp)); obtain ⟨o0, oz, ol⟩ := box hob'.out; replace hbx' := Lib.hid (hf.keep hbx'.out (by simp)); obtain ⟨k0, kz, kl⟩ := box hbx'.out; replace hdx' := Lib.hid (hf.keep hdx'.out (by simp)); obtain ⟨d0, dz, dl⟩ := box hdx'.out; clear hf) | (go_at_call 10; (with_reducible refine Calls.mono (check_at hcf'.out (by omega) (by omega) hchk'.out) ?_); rintro e wX ⟨rfl, hf⟩; replace hF' := Lib.hid (hF'.out.trans hf); replace hcf' := Lib.hid (hcf'.out.fr0 hf); replace hcd' := Lib.hid (hcd'.out.fr0 hf); replace hob' := Lib.hid (hf.keep hob'.out (by simp)); obtain ⟨o0, oz, ol⟩ := box hob'.out; replace hbx' := Lib.hid (hf.keep hbx'.out (by simp)); obtain ⟨k0, kz, kl⟩ := box hbx'.out; replace hdx' := Lib.hid (hf.keep hdx'.out (by simp)); obtain ⟨d0, dz, dl⟩ := box hdx'.out; clear hf))
  all_goals go_ret
  all_goals exact ⟨rfl, hF'.out⟩
end Go.Proofs.YthhpamaeibjpaaaDoor
end
