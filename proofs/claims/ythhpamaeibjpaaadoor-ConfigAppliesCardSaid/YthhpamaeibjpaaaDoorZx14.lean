/- Contracts and words, several texts in one. -/
import Derived.Deep.RegionHeld3
import Derived.BigQuiet
import Derived.Lib.Hide
import Derived.Test.YthhpamaeibjpaaaDoorZx11
import Derived.Test.YthhpamaeibjpaaaDoorZx13
section
namespace Go.Proofs.YthhpamaeibjpaaaDoor
open Go.RowKit Go.Maps Go.Lib Go.Sort
theorem infoPt : (Tryd.prog.info? 71).map (fun i => (i.zero, i.size, i.bytes)) = some (some (.agg #[.int .i64 0, .int .i64 0, .int .i64 0, .int .i64 0]), 4, 32) := by kernel_rfl
theorem enc1Pt (x : Pt) : ∀ u ∈ encPt x, u.oneCell' = true := by intro v hv; simp [encPt] at hv; rcases hv with rfl | rfl | rfl | rfl <;> rfl
def jrun (S : List Pt) (i : Nat) : List Pt := (S.take i).foldl jstep []
theorem jrun_step {S : List Pt} {i : Nat} {p : Pt} (h : S[i]? = some p) : jrun S (i + 1) = jstep (jrun S i) p := by
  unfold jrun
  rw [List.take_add_one, h, List.foldl_append]; rfl
theorem jrun_len (S : List Pt) (i : Nat) : (jrun S i).length ≤ S.length := by
  have := join_len (S.take i) []
  unfold jrun
  rw [List.length_take, List.length_nil] at this; omega
theorem jrun_all (S : List Pt) : jrun S S.length = joinP S := by unfold jrun joinP; rw [List.take_length]
set_option maxRecDepth 100000 in
set_option maxHeartbeats 4000000 in
theorem joined_any {B : Nat → Prop} (v : Value) (S : List Pt) (w : World) (h : SliceIs w B encPt v S) (hl : S.length < 1000000) :
    Calls Tryd.prog 89 #[v] w fun e w' => ∃ v', e = .returned v' ∧ Fr [] w w' ∧ w'.ownsRow w.heap.size 71 4 v' (joinP S).length ((joinP S).flatMap encPt) := by
  obtain ⟨a, cap, rfl, hc1, hc2, hat⟩ := h.at encPt_len
  have hat' := Lib.hid hat
  clear hat h
  go_enter Tryd.func89, Tryd.ntmps89
  go_wp2
  go_loopg [3, 9] S.length (fun gk lv iv wr => ∃ i : Nat, i ≤ S.length ∧ gk = S.length - i ∧ iv = .int .i64 i ∧ wr.ownsRow w.heap.size 71 4 lv (jrun S i).length ((jrun S i).flatMap encPt) ∧ Fr [] w wr)
  case atStart => exact ⟨0, Nat.zero_le _, rfl, rfl, ⟨by simp [jrun], .inl ⟨rfl, by simp [jrun]⟩⟩, Fr.refl _ _⟩
  case round =>
    obtain ⟨i, hi, hgk, rfl, hown, hfr⟩ := hrel
    have hgk' := Lib.hid hgk
    clear hgk
    have hzr := hfr.size
    by_cases hlt : i < S.length
    · obtain ⟨g, off, rfl, _, hg2, hcells⟩ := hat'.out (by rintro rfl; simp at hlt)
      obtain ⟨x, hx⟩ : ∃ x, S[i]? = some x := ⟨_, List.getElem?_eq_getElem hlt⟩
      have hc : ∀ j u, (encPt x)[j]? = some u → wr.cell? ⟨g, off + i * 4 + j, none⟩ = some u := fun j u hj => by rw [hfr.cell (p := ⟨g, _, none⟩) hg2 (by simp), Nat.add_assoc]; exact hcells i x j u hx hj
      have k0 := hc 0 _ rfl
      have k1 := hc 1 _ rfl
      have k2 := hc 2 _ rfl
      have k3 := hc 3 _ rfl
      rw [Nat.add_zero] at k0
      have hst := jrun_step hx
      have hjl := jrun_len S i
      have hst' := Lib.hid hst
      obtain ⟨J, hJ⟩ : ∃ J, J = jrun S i := ⟨_, rfl⟩
      rw [← hJ] at hown hst' hjl
      obtain ⟨f, t, a, b⟩ := x
      dsimp only at k0 k1 k2 k3
      clear hcells hx hc hst hJ
      go_upto_region 5 with (fail)
      obtain ⟨W, hW⟩ : ∃ W, W = wr.alloc (.cells #[.int .i64 f, .int .i64 t, .int .i64 a, .int .i64 b] 71) := ⟨_, rfl⟩
      have hFW : Fr [] wr W := by rw [hW]; exact (Fr.refl _ _).alloc _
      have hbx : W.heap[wr.heap.size]? = some (.cells #[.int .i64 f, .int .i64 t, .int .i64 a, .int .i64 b] 71 (0, 0)) := by rw [hW]; exact heap_alloc_new wr _
      have hzW : W.heap.size = wr.heap.size + 1 := by rw [hW]; simp
      have b0 := (show W.cell? ⟨wr.heap.size, 0, none⟩ = some (.int .i64 f) from cell_at hbx)
      have b1 := (show W.cell? ⟨wr.heap.size, 1, none⟩ = some (.int .i64 t) from cell_at hbx)
      have b2 := (show W.cell? ⟨wr.heap.size, 2, none⟩ = some (.int .i64 a) from cell_at hbx)
      have b3 := (show W.cell? ⟨wr.heap.size, 3, none⟩ = some (.int .i64 b) from cell_at hbx)
      have hobr := hown.lt
      have hownW := owns_fr hown hFW (by simp)
      have hob := hownW.lt
      rw [← hW]
      have hFW' := Lib.hid hFW
      clear hW hbx hown k0 k1 k2 k3 hFW
      by_cases e1 : t ≤ f
      · obtain ⟨a1, cap1, rfl, _, _, _⟩ := SliceIs.of_owns hownW rfl
        have hj : jstep J (f, t, a, b) = J := by unfold jstep; rw [if_pos e1]
        have hj' := Lib.hid hj; clear hj
        have hownW' := Lib.hid hownW; clear hownW
        go_wp2
        go_roundg (S.length - (i + 1))
        case rel => exact ⟨i + 1, by omega, by omega, by go_num, by rw [hst'.out, hj'.out]; exact hownW'.out, hfr.trans hFW'.out⟩
        case measure => rw [hgk'.out]; omega
      have e1b : decide (t ≤ f) = false := by simpa using e1
      have hj : jstep J (f, t, a, b) = jput J (f, t, a, b) := by unfold jstep; rw [if_neg e1]
      rw [hj] at hst'
      clear hj e1
      cases hJ : J.getLast? with
      | none =>
        have hJ0 : J = [] := List.getLast?_eq_none_iff.1 hJ
        subst hJ0
        have hj : jput [] (f, t, a, b) = [(f, t, a, b)] := rfl
        rw [hj] at hst'
        clear hj hJ
        obtain ⟨a1, cap1, rfl, _, _, _⟩ := SliceIs.of_owns hownW rfl
        have hownW' := Lib.hid hownW
        go_wp2
        go_quiet (fail)
        obtain ⟨wq, hwq⟩ : ∃ wq, wq = W.drewN nq := ⟨_, rfl⟩
        have hfq : Fr [] W wq := by rw [hwq]; exact (Fr.refl [] W).drewN nq
        have z0 := hfq.at0 b0
        have z1 := hfq.at0 b1
        have z2 := hfq.at0 b2
        have z3 := hfq.at0 b3
        have hownq := owns_fr hownW'.out hfq (by simp)
        have hzq := hfq.size
        rw [← hwq]
        have hfq' := Lib.hid hfq
        clear b0 b1 b2 b3 hwq hfq
        go_wp2_with (first | (at_builtin; (refine wpList_push wq _ _ rfl _ _ 24 rfl w.heap.size 71 Tryd.underlying24 infoPt rfl (by omega) (.slice a1 0 cap1) [] rfl hownq (f, t, a, b) rfl encPt_len (enc1Pt _) rfl (by simp) (by omega) (by omega) ?_; intro v' w7 hown7 hf7)))
        have hob := hownq.lt
        go_roundg (S.length - (i + 1))
        case rel => exact ⟨i + 1, by omega, by omega, by go_num, by rw [hst'.out]; exact hown7, (hfr.trans (hFW'.out.trans hfq'.out)).andThen hf7 (fun t ht => .inr (by have := hob t (by simpa using ht); omega))⟩
        case measure => rw [hgk'.out]; omega
      | some q =>
        obtain ⟨o, hJo⟩ := List.getLast?_eq_some_iff.1 hJ
        obtain ⟨q1, q2, q3, q4⟩ := q
        have hjp : jput J (f, t, a, b) = if q3 = a ∧ q4 = b then o ++ [(q1, t, q3, q4)] else J ++ [(f, t, a, b)] := by
          unfold jput
          rw [hJ]
          dsimp only
          rw [hJo]
          simp
        rw [hjp] at hst'
        have hJl : J.length = o.length + 1 := by rw [hJo]; simp
        have hq : J[o.length]? = some (q1, q2, q3, q4) := by rw [hJo]; simp
        obtain ⟨gJ, capJ, hv, hg1, hg3, _, hnf, hcJ⟩ := owns_cell hownW encPt_len (by rw [hJo]; simp)
        have c0 := hcJ o.length _ 0 _ hq rfl
        have c1 := hcJ o.length _ 1 _ hq rfl
        have c2 := hcJ o.length _ 2 _ hq rfl
        have c3 := hcJ o.length _ 3 _ hq rfl
        rw [Nat.add_zero] at c0
        dsimp only at c0 c1 c2 c3
        have hn1 := hnf (o.length * 4 + 1)
        have hset : J.set o.length (q1, t, q3, q4) = o ++ [(q1, t, q3, q4)] := by rw [hJo]; simp
        have hownS := (fun (h : W.ownsRow w.heap.size 71 4 (.slice (some ⟨gJ, 0, none⟩) J.length capJ) J.length (J.flatMap encPt)) => owns_setAt h encPt_len o.length (q1, q2, q3, q4) (q1, t, q3, q4) 1 (.int .i64 t) hq (by omega) rfl) (by rw [← hv]; exact hownW)
        rw [hset] at hownS
        have hgne : gJ ≠ wr.heap.size := by
          intro e
          have h1 := hobr gJ (by rw [hv]; rfl)
          omega
        subst hv
        have hownW' := Lib.hid hownW; have hownS' := Lib.hid hownS; have hq' := Lib.hid hq
        have hSl : (o ++ [(q1, t, q3, q4)]).length = o.length + 1 := by simp
        have hSl' := Lib.hid hSl
        clear hjp hJo hJ hcJ hnf hset hownW hownS hq hSl
        rw [hJl]
        by_cases e2 : q3 = a
        · by_cases e3 : q4 = b
          · rw [if_pos ⟨e2, e3⟩] at hst'
            have e2s := e2.symm; have e3s := e3.symm
            subst e2s e3s
            go_wp2
            go_quiet (fail)
            go_wp2
            have hS2 : ((W.drewN nq).setCell ⟨gJ, o.length * 4 + 1, none⟩ (.int .i64 t)).ownsRow w.heap.size 71 4 (.slice (some ⟨gJ, 0, none⟩) (o.length + 1) capJ) (o ++ [(q1, t, a, b)]).length ((o ++ [(q1, t, a, b)]).flatMap encPt) := by
              rw [← hJl]
              exact owns_fr (T := []) hownS'.out (by exact ⟨rfl, rfl, rfl, Nat.le_refl _, fun _ _ _ => rfl⟩) (by simp)
            go_roundg (S.length - (i + 1))
            case rel => exact ⟨i + 1, by omega, by omega, by go_num, by rw [hst'.out]; exact hS2, ((hfr.trans hFW'.out).drewN nq).setCell _ _ (.inr hg1)⟩
            case measure => rw [hgk'.out]; omega
          · have e3b : (q4 == b) = false := by simpa using e3
            rw [if_neg (fun h => e3 h.2)] at hst'
            have e2s := e2.symm
            subst e2s
            clear e3
            go_wp2
            go_quiet (fail)
            obtain ⟨wq, hwq⟩ : ∃ wq, wq = W.drewN nq := ⟨_, rfl⟩
            have hfq : Fr [] W wq := by rw [hwq]; exact (Fr.refl [] W).drewN nq
            have z0 := hfq.at0 b0
            have z1 := hfq.at0 b1
            have z2 := hfq.at0 b2
            have z3 := hfq.at0 b3
            have hownq := owns_fr hownW'.out hfq (by simp)

            have hzq := hfq.size
            rw [← hwq]
            have hfq' := Lib.hid hfq
            clear b0 b1 b2 b3 hwq hfq
            go_wp2_with (first | (at_builtin; (refine wpList_push wq _ _ rfl _ _ 24 rfl w.heap.size 71 Tryd.underlying24 infoPt rfl (by omega) (.slice (some ⟨gJ, 0, none⟩) (o.length + 1) capJ) J rfl (by rw [← hJl]; exact hownq) (f, t, a, b) rfl encPt_len (enc1Pt _) rfl (by omega) (by omega) (by omega) ?_; intro v' w7 hown7 hf7)))
            have hob := hownq.lt
            go_roundg (S.length - (i + 1))
            case rel => exact ⟨i + 1, by omega, by omega, by go_num, by rw [hst'.out]; exact hown7, (hfr.trans (hFW'.out.trans hfq'.out)).andThen hf7 (fun t ht => .inr (by have h5 : t = gJ := (by simpa [Value.ownBlock] using ht); omega))⟩
            case measure => rw [hgk'.out]; omega
        · have e2b : (q3 == a) = false := by simpa using e2
          rw [if_neg (fun h => e2 h.1)] at hst'
          clear e2
          go_wp2
          go_quiet (fail)
          obtain ⟨wq, hwq⟩ : ∃ wq, wq = W.drewN nq := ⟨_, rfl⟩
          have hfq : Fr [] W wq := by rw [hwq]; exact (Fr.refl [] W).drewN nq
          have z0 := hfq.at0 b0
          have z1 := hfq.at0 b1
          have z2 := hfq.at0 b2
          have z3 := hfq.at0 b3
          have hownq := owns_fr hownW'.out hfq (by simp)
          have hzq := hfq.size
          rw [← hwq]
          have hfq' := Lib.hid hfq
          clear b0 b1 b2 b3 hwq hfq
          go_wp2_with (first | (at_builtin; (refine wpList_push wq _ _ rfl _ _ 24 rfl w.heap.size 71 Tryd.underlying24 infoPt rfl (by omega) (.slice (some ⟨gJ, 0, none⟩) (o.length + 1) capJ) J rfl (by rw [← hJl]; exact hownq) (f, t, a, b) rfl encPt_len (enc1Pt _) rfl (by omega) (by omega) (by omega) ?_; intro v' w7 hown7 hf7)))
          have hob := hownq.lt
          go_roundg (S.length - (i + 1))
          case rel => exact ⟨i + 1, by omega, by omega, by go_num, by rw [hst'.out]; exact hown7, (hfr.trans (hFW'.out.trans hfq'.out)).andThen hf7 (fun t ht => .inr (by have h5 : t = gJ := (by simpa [Value.ownBlock] using ht); omega))⟩
          case measure => rw [hgk'.out]; omega
    · have he : i = S.length := by omega
      subst he
      rw [jrun_all] at hown
      have hsl := SliceIs.of_owns hown rfl
      obtain ⟨a1, cap1, rfl, hd1, hd2, _⟩ := id hsl
      go_wp2
      go_ret
      exact ⟨_, rfl, hfr, hown⟩
end Go.Proofs.YthhpamaeibjpaaaDoor
end
