/- Contracts and words, several texts in one. -/
import Derived.BigQuiet
import Derived.Test.YthhpamaeibjpaaaDoorZx23
section
namespace Go.Proofs.YthhpamaeibjpaaaDoor
open Go.RowKit Go.Maps Go.Lib Go.Sort
set_option linter.unusedVariables false
attribute [local go_sem ↓] Go.wp_at_zero Go.wp_at_succ
set_option maxRecDepth 100000 in
set_option maxHeartbeats 8000000 in
theorem tables_walk {B : Nat → Prop} (v : Value) (L : List Ord) (n a b : Int) (w : World) (h : SliceIs w B encO v L) (ha0 : 0 ≤ a) (ha1 : a ≤ 255) (hb0 : 0 ≤ b) (hb1 : b ≤ 255) (hkin : KindsAt w) :
    Calls Tryd.prog 7 #[v, .int .i64 n, .int .u8 a, .int .u8 b] w fun e w' => e = .returned (.bool true) ∧ Fr [] w w' := by
  have hok := after_ok L 60
  have hep := after_ep L 60
  obtain ⟨C, hC⟩ : ∃ C, C = afterP L 60 := ⟨_, rfl⟩
  rw [← hC] at hok hep
  obtain ⟨ep, sv, pt, tb⟩ := C
  have haf := fun X (hX : Fr [] w X) => after_at (h.fr hX (by simp)) (hkin.fr hX (by simp)) hC
  obtain ⟨a0, cap0, rfl, -⟩ := h
  have hsm := ok_small hok
  have hsh := shown_any
  have hr := tables_law hok (by omega) n
  obtain ⟨⟨x1, y1⟩, hD⟩ : ∃ D : Int × Int, whereP ⟨ep, sv, pt, tb⟩ a = (D.1, D.2, 0) := by
    rcases where_blk hok a with ⟨_, _, x, _, hw, _⟩ | ⟨hh, _⟩
    · exact ⟨x, hw⟩
    · omega
  dsimp only at hD hep hr
  have hok' := Lib.hid hok; have haf' := Lib.hid haf; have hkin' := Lib.hid hkin
  have hD' := Lib.hid hD
  have hF' : Hid (Fr [] w w) := Lib.hid (Fr.refl _ _)
  clear hC hkin hok haf hD hep
  by_cases hn : n < 1 ∨ 8 < n
  · rw [if_pos hn] at hr
    have hr' := Lib.hid hr
    unfold zeroCfg at hr'
    have hnb : decide (1 ≤ n ∧ n ≤ 8) = false := by simp; omega
    clear hr
    go_enter Tryd.func7, Tryd.ntmps7
    go_upto_region 4 with (first | (go_at_call 9; (with_reducible refine Calls.mono (hsh _) ?_); rintro e wX ⟨rfl, hf⟩; replace hF' := Lib.hid (hF'.out.trans hf); clear hf) | (go_at_call 13; (with_reducible refine Calls.mono (haf'.out _ hF'.out) ?_); rintro e wX ⟨a1, q1, a2, q2, rfl, hf, hcf⟩; have hcf' := Lib.hid hcf; replace hF' := Lib.hid (hF'.out.trans hf); clear hf; clear hcf))
    obtain ⟨W1, hW1⟩ : ∃ W1, W1 = wX.alloc (.cells #[.int .i64 ep, .slice a1 sv.length q1, .slice a2 pt.length q2, .int .i64 tb] 26) := ⟨_, rfl⟩
    rw [← hW1]
    have hf : Fr [] wX W1 := by rw [hW1]; exact (Fr.refl _ _).alloc _
    have hbx' : Hid (W1.heap[wX.heap.size]? = some (.cells #[.int .i64 ep, .slice a1 sv.length q1, .slice a2 pt.length q2, .int .i64 tb] 26 (0, 0))) := Lib.hid (by rw [hW1]; exact heap_alloc_new wX _)
    clear hW1
    obtain ⟨k0, kz, kl⟩ := box hbx'.out
    replace hF' := Lib.hid (hF'.out.trans hf)
    replace hcf' := Lib.hid (hcf'.out.fr0 hf)
    clear hf
    go_upto_region 5 with (first | (go_at_call 14; (with_reducible refine Calls.mono (apply_at (o := (0, 0, 0, 0, 0)) hcf'.out (hkin'.out.fr hF'.out (by simp)) (by omega) (by omega) hr'.out) ?_); rintro e wX ⟨b1, p1, b2, p2, rfl, hf, hcd⟩; dsimp only; have hcd' := Lib.hid hcd; replace hF' := Lib.hid (hF'.out.trans hf); replace hcf' := Lib.hid (hcf'.out.fr0 hf); replace hbx' := Lib.hid (hf.keep hbx'.out (by simp)); obtain ⟨k0, kz, kl⟩ := box hbx'.out; clear hf; clear hcd))
    dsimp only [List.length_nil]
    obtain ⟨W2, hW2⟩ : ∃ W2, W2 = wX.alloc (.cells #[.int .i64 0, .slice b1 0 p1, .slice b2 0 p2, .int .i64 0] 26) := ⟨_, rfl⟩
    rw [← hW2]
    have hf : Fr [] wX W2 := by rw [hW2]; exact (Fr.refl _ _).alloc _
    have hdx' : Hid (W2.heap[wX.heap.size]? = some (.cells #[.int .i64 0, .slice b1 0 p1, .slice b2 0 p2, .int .i64 0] 26 (0, 0))) := Lib.hid (by rw [hW2]; exact heap_alloc_new wX _)
    clear hW2
    obtain ⟨d0, dz, dl⟩ := box hdx'.out
    replace hF' := Lib.hid (hF'.out.trans hf)
    replace hcf' := Lib.hid (hcf'.out.fr0 hf)
    replace hcd' := Lib.hid (hcd'.out.fr0 hf)
    replace hbx' := Lib.hid (hf.keep hbx'.out (by simp))
    obtain ⟨k0, kz, kl⟩ := box hbx'.out
    clear hf
    go_wp2
    all_goals (go_ret; exact ⟨rfl, hF'.out⟩)
  · rw [if_neg hn] at hr
    have hn1 : 1 ≤ n := by omega
    have hn8 : n ≤ 8 := by omega
    have hr' := Lib.hid hr
    have hod : okC ⟨ep + 1, sv, pt, n⟩ = true := by
      have := (apply_ok (c := ⟨ep, sv, pt, tb⟩) (o := (4, n, 0, 0, 0)) (by rw [hr])).2.1
      rw [hr] at this; exact this
    have hod' := Lib.hid hod
    have hD2' : Hid (whereP ⟨ep + 1, sv, pt, n⟩ a = (x1, y1, 0)) := Lib.hid hD'.out
    have ht1' := Lib.hid (table_mod (c := ⟨ep + 1, sv, pt, n⟩) rfl hn1 ha0)
    have ht2' := Lib.hid (table_mod (c := ⟨ep + 1, sv, pt, n⟩) rfl hn1 hb0)
    have ht3' := Lib.hid (table_neg ⟨ep + 1, sv, pt, n⟩)
    have g0 : 0 ≤ Int.tmod a n := Int.tmod_nonneg _ ha0
    have g1 : Int.tmod a n < n := Int.tmod_lt_of_pos _ (by omega)
    have hz : (n == 0) = false := by simp; omega
    clear hr hod hn
    go_enter Tryd.func7, Tryd.ntmps7
    go_upto_region 4 with (first | (go_at_call 9; (with_reducible refine Calls.mono (hsh _) ?_); rintro e wX ⟨rfl, hf⟩; replace hF' := Lib.hid (hF'.out.trans hf); clear hf) | (go_at_call 13; (with_reducible refine Calls.mono (haf'.out _ hF'.out) ?_); rintro e wX ⟨a1, q1, a2, q2, rfl, hf, hcf⟩; have hcf' := Lib.hid hcf; replace hF' := Lib.hid (hF'.out.trans hf); clear hf; clear hcf))
    obtain ⟨W1, hW1⟩ : ∃ W1, W1 = wX.alloc (.cells #[.int .i64 ep, .slice a1 sv.length q1, .slice a2 pt.length q2, .int .i64 tb] 26) := ⟨_, rfl⟩
    rw [← hW1]
    have hf : Fr [] wX W1 := by rw [hW1]; exact (Fr.refl _ _).alloc _
    have hbx' : Hid (W1.heap[wX.heap.size]? = some (.cells #[.int .i64 ep, .slice a1 sv.length q1, .slice a2 pt.length q2, .int .i64 tb] 26 (0, 0))) := Lib.hid (by rw [hW1]; exact heap_alloc_new wX _)
    clear hW1
    obtain ⟨k0, kz, kl⟩ := box hbx'.out
    replace hF' := Lib.hid (hF'.out.trans hf)
    replace hcf' := Lib.hid (hcf'.out.fr0 hf)
    clear hf
    go_upto_region 5 with (first | (go_at_call 14; (with_reducible refine Calls.mono (apply_at (o := (0, 0, 0, 0, 0)) hcf'.out (hkin'.out.fr hF'.out (by simp)) (by omega) (by omega) hr'.out) ?_); rintro e wX ⟨b1, p1, b2, p2, rfl, hf, hcd⟩; dsimp only; have hcd' := Lib.hid hcd; replace hF' := Lib.hid (hF'.out.trans hf); replace hcf' := Lib.hid (hcf'.out.fr0 hf); replace hbx' := Lib.hid (hf.keep hbx'.out (by simp)); obtain ⟨k0, kz, kl⟩ := box hbx'.out; clear hf; clear hcd))
    obtain ⟨W2, hW2⟩ : ∃ W2, W2 = wX.alloc (.cells #[.int .i64 (ep + 1), .slice b1 sv.length p1, .slice b2 pt.length p2, .int .i64 n] 26) := ⟨_, rfl⟩
    rw [← hW2]
    have hf : Fr [] wX W2 := by rw [hW2]; exact (Fr.refl _ _).alloc _
    have hdx' : Hid (W2.heap[wX.heap.size]? = some (.cells #[.int .i64 (ep + 1), .slice b1 sv.length p1, .slice b2 pt.length p2, .int .i64 n] 26 (0, 0))) := Lib.hid (by rw [hW2]; exact heap_alloc_new wX _)
    clear hW2
    obtain ⟨d0, dz, dl⟩ := box hdx'.out
    replace hF' := Lib.hid (hF'.out.trans hf)
    replace hcf' := Lib.hid (hcf'.out.fr0 hf)
    replace hcd' := Lib.hid (hcd'.out.fr0 hf)
    replace hbx' := Lib.hid (hf.keep hbx'.out (by simp))
    obtain ⟨k0, kz, kl⟩ := box hbx'.out
    clear hf
    go_upto_region 13 with (first | (go_at_call 17; (first | with_reducible refine Calls.mono (where_at hcf'.out hok'.out hD'.out) ?_ | with_reducible refine Calls.mono (where_at hcd'.out hod'.out hD2'.out) ?_); rintro e wX ⟨rfl, hf⟩; replace hF' := Lib.hid (hF'.out.trans hf); replace hcf' := Lib.hid (hcf'.out.fr0 hf); replace hcd' := Lib.hid (hcd'.out.fr0 hf); replace hbx' := Lib.hid (hf.keep hbx'.out (by simp)); obtain ⟨k0, kz, kl⟩ := box hbx'.out; replace hdx' := Lib.hid (hf.keep hdx'.out (by simp)); obtain ⟨d0, dz, dl⟩ := box hdx'.out; clear hf) | (go_at_call 19; (first | with_reducible refine Calls.mono (table_at hcd'.out ht1'.out) ?_ | with_reducible refine Calls.mono (table_at hcd'.out ht2'.out) ?_); rintro e wX ⟨rfl, hf⟩; replace hF' := Lib.hid (hF'.out.trans hf); replace hcf' := Lib.hid (hcf'.out.fr0 hf); replace hcd' := Lib.hid (hcd'.out.fr0 hf); replace hbx' := Lib.hid (hf.keep hbx'.out (by simp)); obtain ⟨k0, kz, kl⟩ := box hbx'.out; replace hdx' := Lib.hid (hf.keep hdx'.out (by simp)); obtain ⟨d0, dz, dl⟩ := box hdx'.out; clear hf))
    have Ld0 := fun p : Later wX => (box (p.fr.keep hdx'.out (by simp))).1
    have hA := fun p : Later wX => table_at (hcd'.out.fr0 p.fr) ht3'.out
    have hA' := Lib.hid hA
    clear hA
    refine wp_region_later (by kernel_rfl) (by kernel_rfl) ?_
    repeat (go_big_quiet_step ((first | (go_at_call 19; refine Calls.later_of0 (hA'.out _)))))
    refine wpQuiet_nil ?_
    intro w2 hw'
    have hf2 : Fr [] wX w2 := by
      obtain ⟨p, rfl⟩ := hw'
      exact p.fr
    clear hw'
    go_wp2
    go_ret
    exact ⟨rfl, hF'.out.trans hf2⟩
end Go.Proofs.YthhpamaeibjpaaaDoor
end
