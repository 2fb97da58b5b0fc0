/- The reference's timers: Set. -/
import Derived.Test.YtcnihacjkcicfaaTr5
namespace Go.Proofs.Ytcnihacjkcicfaa
open Go.RowKit Go.Lib Go.Sort Go.Shelf
set_option maxRecDepth 100000 in
set_option maxHeartbeats 1000000 in
theorem rset_bad (tp : Value) (n a t : Int) (w : World) (h : n < 0 ∨ 8 ≤ n ∨ a < 0 ∨ 1099511627776 < a ∨ t < 0 ∨ 255 < t) :
    Calls Try.prog 10 #[tp, .agg #[.int .i64 n, .int .i64 a, .int .i64 t]] w fun e w' => e = .returned (.int .i64 1) ∧ Fr [] w w' := by
  go_enter Try.func10, Try.ntmps10
  go_wp2
  all_goals (go_ret; exact ⟨rfl, (Fr.refl _ _).alloc _⟩)
set_option maxRecDepth 100000 in
set_option maxHeartbeats 2000000 in
theorem rset_ok (rb : Nat) (T : List Al) (n a t : Int) (w : World) (h : RefAt w rb T) (hT : T.length < 1000000)
    (h1 : 0 ≤ n) (h2 : n < 8) (h3 : 0 ≤ a) (h4 : a ≤ 1099511627776) (h5 : 0 ≤ t) (h6 : t ≤ 255) (hfull : ¬ 64 ≤ (without T (n, t)).length) :
    Calls Try.prog 10 #[.pointer (some ⟨rb, 0, none⟩), .agg #[.int .i64 n, .int .i64 a, .int .i64 t]] w fun e w' => e = .returned (.int .i64 0) ∧ Fr [rb] w w' ∧ RefAt w' rb (insA (n, a, t) (without T (n, t))) := by
  have lr := h.lt
  have hf0 : Fr [] w (w.alloc (Obj.cells #[.int .i64 n, .int .i64 a, .int .i64 t] 34)) := (Fr.refl _ _).alloc _
  have hw := without_any rb T n t (w.alloc (Obj.cells #[.int .i64 n, .int .i64 a, .int .i64 t] 34)) (h.fr hf0 (by simp) (by simp)) hT
  obtain ⟨_, _, _, hfz0, _⟩ := h.open
  obtain ⟨S, hS⟩ : ∃ S, S = without T (n, t) := ⟨_, rfl⟩
  rw [← hS] at hw hfull ⊢
  have hh := Lib.hid h
  clear hS h
  go_enter Try.func10, Try.ntmps10
  go_wp2_with (first | (go_at_call 22; refine hw.mono ?_; rintro e w1 ⟨v, rfl, hf1, hs1⟩; obtain ⟨a0, cap, rfl, _, _, hat⟩ := hs1.at encAl_len; have hat' := Lib.hid hat; clear hat; have lw := (show w.heap.size < w1.heap.size from by have := hf1.size; simp at this; omega); have b0 := (show w1.cell? ⟨w.heap.size, 0, none⟩ = some (.int .i64 n) from by rw [hf1.cell (p := ⟨w.heap.size, 0, none⟩) (by simp) (by simp)]; go_simp); have b1 := (show w1.cell? ⟨w.heap.size, 1, none⟩ = some (.int .i64 a) from by rw [hf1.cell (p := ⟨w.heap.size, 1, none⟩) (by simp) (by simp)]; go_simp); have b2 := (show w1.cell? ⟨w.heap.size, 2, none⟩ = some (.int .i64 t) from by rw [hf1.cell (p := ⟨w.heap.size, 2, none⟩) (by simp) (by simp)]; go_simp)))
  go_loopg [6, 7, 8] S.length (fun gk ov dv iv wr => ∃ (i : Nat) (dn : Bool) (O : List Al), i ≤ S.length ∧ gk = S.length - i ∧ iv = .int .i64 i ∧ dv = .bool dn ∧ Ins (n, a, t) S i dn O ∧ wr.ownsRow w1.heap.size 34 3 ov O.length (O.flatMap encAl) ∧ Fr [] w1 wr)
  case atStart => exact ⟨0, false, [], Nat.zero_le _, rfl, rfl, rfl, Ins.zero _ _, World.ownsRow_made w1 #[] 0 (Nat.le_refl _) (Nat.zero_le _) rfl, (Fr.refl _ _).alloc _⟩
  case round =>
    obtain ⟨i, dn, O, hi, hgk, rfl, rfl, hins, hown, hfr⟩ := hrel
    have hgk' := Lib.hid hgk; clear hgk
    have hins' := Lib.hid hins
    have hOl := hins.len
    have c0 : wr.cell? ⟨w.heap.size, 0, none⟩ = some (.int .i64 n) := by rw [hfr.cell (p := ⟨w.heap.size, 0, none⟩) lw (by simp)]; exact b0
    have c1 : wr.cell? ⟨w.heap.size, 1, none⟩ = some (.int .i64 a) := by rw [hfr.cell (p := ⟨w.heap.size, 1, none⟩) lw (by simp)]; exact b1
    have c2 : wr.cell? ⟨w.heap.size, 2, none⟩ = some (.int .i64 t) := by rw [hfr.cell (p := ⟨w.heap.size, 2, none⟩) lw (by simp)]; exact b2
    have lwr : w.heap.size < wr.heap.size := by have := hfr.size; omega
    have hob := hown.lt
    clear hins b0 b1 b2
    by_cases hlt : i < S.length
    · obtain ⟨g', off, rfl, hq1, hq2, hcells⟩ := hat'.out (by intro h; rw [h] at hlt; simp at hlt)
      obtain ⟨⟨x1, x2, x3⟩, hx⟩ : ∃ x, S[i]? = some x := ⟨_, List.getElem?_eq_getElem hlt⟩
      have k0 : wr.cell? ⟨g', off + i * 3, none⟩ = some (.int .i64 x1) := by rw [hfr.cell (p := ⟨g', _, none⟩) hq2 (by simp)]; exact hcells i _ 0 _ hx rfl
      have k1 : wr.cell? ⟨g', off + i * 3 + 1, none⟩ = some (.int .i64 x2) := by rw [hfr.cell (p := ⟨g', _, none⟩) hq2 (by simp)]; exact hcells i _ 1 _ hx rfl
      have k2 : wr.cell? ⟨g', off + i * 3 + 2, none⟩ = some (.int .i64 x3) := by rw [hfr.cell (p := ⟨g', _, none⟩) hq2 (by simp)]; exact hcells i _ 2 _ hx rfl
      have lq : g' < wr.heap.size := by have := hfr.size; omega
      have hx' := Lib.hid hx
      clear hcells hx
      cases dn
      · go_wp2
        refine wp_region_still_tail 8 (by kernel_rfl) (by kernel_rfl) ?_
        simp only [List.take_succ_cons, List.take_zero, List.drop_succ_cons, List.drop_zero]
        change wpStill Try.prog _ (World.drew _) _ _ _
        repeat still_step
        refine wpStill_nil ?_
        change wpList _ _ _ _ _ (World.drew _)
        have hah := ahead_raw n a t x1 x2 x3 wr.drew
        have lqw := Nat.lt_of_lt_of_le hq2 (Nat.le_refl _)
        by_cases hlx : ltA (n, a, t) (x1, x2, x3)
        · rw [decide_eq_true hlx] at hah
          have hI := Lib.hid (Ins.hit hins'.out hx'.out hlx); clear hlx
          go_wp2_with fail
          refine hah.mono ?_
          rintro e w2 ⟨rfl, hf2⟩
          have hf2r : Fr [] wr w2 := ((Fr.refl [] wr).drew).trans hf2
          have e0 : w2.cell? ⟨w.heap.size, 0, none⟩ = some (.int .i64 n) := by rw [hf2r.cell (p := ⟨w.heap.size, 0, none⟩) lwr (by simp)]; exact c0
          have e1 : w2.cell? ⟨w.heap.size, 1, none⟩ = some (.int .i64 a) := by rw [hf2r.cell (p := ⟨w.heap.size, 1, none⟩) lwr (by simp)]; exact c1
          have e2 : w2.cell? ⟨w.heap.size, 2, none⟩ = some (.int .i64 t) := by rw [hf2r.cell (p := ⟨w.heap.size, 2, none⟩) lwr (by simp)]; exact c2
          have hown2 := owns_fr hown hf2r (by simp)
          have hz2 : w1.heap.size ≤ w2.heap.size := Nat.le_trans hfr.size hf2r.size
          have hrf : ∀ t ∈ u6.ownBlock.toList, w1.heap.size ≤ t ∧ t < wr.heap.size := fun t ht => hob t (by simpa using ht)
          have hrf' := Lib.hid hrf; clear hrf hf2 c0 c1 c2
          go_wp2_with (first | (at_builtin; refine wpList_push w2 _ _ rfl (.tmp 63) (.tmp 65) 26 rfl w1.heap.size 34 Try.underlying26 infoRef rfl (by omega) u6 O rfl hown2 (n, a, t) rfl encAl_len (enc1 _) rfl (by omega) (by omega) hz2 ?_; intro v3 w3 hown3 hf3; have hf3r := Lib.hid ((hf2r.mono (by simp)).trans hf3 : Fr u6.ownBlock.toList wr w3); have lz3 := (show w1.heap.size ≤ w3.heap.size from Nat.le_trans hz2 hf3.size); have j0 := (show w3.cell? ⟨g', off + i * 3, none⟩ = some (.int .i64 x1) from by rw [hf3r.out.cell (p := ⟨g', _, none⟩) lq (fun hm => by have := hrf'.out g' hm; omega)]; exact k0); have j1 := (show w3.cell? ⟨g', off + i * 3 + 1, none⟩ = some (.int .i64 x2) from by rw [hf3r.out.cell (p := ⟨g', _, none⟩) lq (fun hm => by have := hrf'.out g' hm; omega)]; exact k1); have j2 := (show w3.cell? ⟨g', off + i * 3 + 2, none⟩ = some (.int .i64 x3) from by rw [hf3r.out.cell (p := ⟨g', _, none⟩) lq (fun hm => by have := hrf'.out g' hm; omega)]; exact k2)) | (at_builtin; refine wpList_push w3 _ _ rfl (.tmp 67) (.tmp 72) 26 rfl w1.heap.size 34 Try.underlying26 infoRef rfl (by omega) v3 (O ++ [(n, a, t)]) rfl hown3 (x1, x2, x3) rfl encAl_len (enc1 _) rfl (by simp; omega) (by omega) lz3 ?_; intro v4 w4 hown4 hf4))
          have hv3 := hown3.lt
          go_roundg (S.length - (i + 1))
          case rel => exact ⟨i + 1, true, _, by omega, rfl, by go_num, rfl, hI.out, hown4, (hfr.andThen hf3r.out (fun t ht => .inr (hrf'.out t ht).1)).andThen hf4 (fun t ht => .inr (hv3 t (by simpa using ht)).1)⟩
          case measure => rw [hgk'.out]; omega
        · rw [decide_eq_false hlx] at hah
          have hI := Lib.hid (Ins.miss hins'.out hx'.out hlx); clear hlx
          go_wp2_with fail
          refine hah.mono ?_
          rintro e w2 ⟨rfl, hf2⟩
          have hf2r : Fr [] wr w2 := ((Fr.refl [] wr).drew).trans hf2
          have j0 : w2.cell? ⟨g', off + i * 3, none⟩ = some (.int .i64 x1) := by rw [hf2r.cell (p := ⟨g', _, none⟩) lq (by simp)]; exact k0
          have j1 : w2.cell? ⟨g', off + i * 3 + 1, none⟩ = some (.int .i64 x2) := by rw [hf2r.cell (p := ⟨g', _, none⟩) lq (by simp)]; exact k1
          have j2 : w2.cell? ⟨g', off + i * 3 + 2, none⟩ = some (.int .i64 x3) := by rw [hf2r.cell (p := ⟨g', _, none⟩) lq (by simp)]; exact k2
          have hown2 := owns_fr hown hf2r (by simp)
          have hz2 : w1.heap.size ≤ w2.heap.size := Nat.le_trans hfr.size hf2r.size
          clear hf2 c0 c1 c2
          go_wp2_with (first | (at_builtin; refine wpList_push w2 _ _ rfl (.tmp 67) (.tmp 72) 26 rfl w1.heap.size 34 Try.underlying26 infoRef rfl (by omega) u6 O rfl hown2 (x1, x2, x3) rfl encAl_len (enc1 _) rfl (by omega) (by omega) hz2 ?_; intro v3 w3 hown3 hf3))
          go_roundg (S.length - (i + 1))
          case rel => exact ⟨i + 1, false, _, by omega, rfl, by go_num, rfl, hI.out, hown3, (hfr.trans hf2r).andThen hf3 (fun t ht => .inr (hob t (by simpa using ht)).1)⟩
          case measure => rw [hgk'.out]; omega
      · have hI := Lib.hid (Ins.done hins'.out hx'.out)
        go_wp2
        go_quiet (fail)
        have hf2r : Fr [] wr (wr.drewN nq) := (Fr.refl [] wr).drewN nq
        have hown2 := owns_fr hown hf2r (by simp)
        have j0 : (wr.drewN nq).cell? ⟨g', off + i * 3, none⟩ = some (.int .i64 x1) := k0
        have j1 : (wr.drewN nq).cell? ⟨g', off + i * 3 + 1, none⟩ = some (.int .i64 x2) := k1
        have j2 : (wr.drewN nq).cell? ⟨g', off + i * 3 + 2, none⟩ = some (.int .i64 x3) := k2
        have hz2 : w1.heap.size ≤ (wr.drewN nq).heap.size := hfr.size
        generalize wr.drewN nq = w2 at *
        clear k0 k1 k2 c0 c1 c2
        go_wp2_with (first | (at_builtin; refine wpList_push w2 _ _ rfl (.tmp 67) (.tmp 72) 26 rfl w1.heap.size 34 Try.underlying26 infoRef rfl (by omega) u6 O rfl hown2 (x1, x2, x3) rfl encAl_len (enc1 _) rfl (by omega) (by omega) hz2 ?_; intro v3 w3 hown3 hf3))
        go_roundg (S.length - (i + 1))
        case rel => exact ⟨i + 1, true, _, by omega, rfl, by go_num, rfl, hI.out, hown3, (hfr.trans hf2r).andThen hf3 (fun t ht => .inr (hob t (by simpa using ht)).1)⟩
        case measure => rw [hgk'.out]; omega
    · have hiT : i = S.length := by omega
      subst hiT
      have hfw : Fr [] w wr := (hf0.trans hf1).trans hfr
      have hwl : w.heap.size < w1.heap.size := lw
      cases dn
      · have hE := Lib.hid (Ins.end_false hins'.out)
        have hzr := hfr.size
        go_wp2_with (first | (at_builtin; refine wpList_push wr _ _ rfl _ _ 26 rfl w1.heap.size 34 Try.underlying26 infoRef rfl (by omega) u6 O rfl hown (n, a, t) rfl encAl_len (enc1 _) rfl (by omega) (by omega) hzr ?_; intro v3 w3 hown3 hf3; have hs3 := SliceIs.of_owns hown3 rfl; have hfw3 := Lib.hid (hfw.andThen hf3 (fun t ht => by have := hob t (by simpa using ht); omega) : Fr [] w w3); obtain ⟨v9, hc9, hz9, _⟩ := hh.out.fr hfw3.out (by simp) (by simp); obtain ⟨a2, cap2, rfl, _, _, _⟩ := hs3.at encAl_len))
        go_ret
        have hst := (hh.out.fr hfw3.out (by simp) (by simp)).store (hs3.imp (B' := (· ≠ rb)) (fun g _ h => by omega))
        rw [List.length_append, List.length_singleton] at hst
        exact ⟨rfl, (hfw3.out.mono (by simp)).trans hst.2, by rw [← hE.out]; exact hst.1⟩
      · have hE := Lib.hid (Ins.end_true hins'.out)
        have hs3 := SliceIs.of_owns hown rfl
        obtain ⟨v9, hc9, hz9, _⟩ := hh.out.fr hfw (by simp) (by simp)
        obtain ⟨a2, cap2, rfl, _, _, _⟩ := hs3.at encAl_len
        have hst := (hh.out.fr hfw (by simp) (by simp)).store (hs3.imp (B' := (· ≠ rb)) (fun g _ h => by omega))
        go_wp2
        go_ret
        exact ⟨rfl, (hfw.mono (by simp)).trans hst.2, by rw [← hE.out]; exact hst.1⟩
set_option maxRecDepth 100000 in
set_option maxHeartbeats 1000000 in
theorem rset_full (rb : Nat) (T : List Al) (n a t : Int) (w : World) (h : RefAt w rb T) (hT : T.length < 1000000)
    (h1 : 0 ≤ n) (h2 : n < 8) (h3 : 0 ≤ a) (h4 : a ≤ 1099511627776) (h5 : 0 ≤ t) (h6 : t ≤ 255) (hfull : 64 ≤ (without T (n, t)).length) :
    Calls Try.prog 10 #[.pointer (some ⟨rb, 0, none⟩), .agg #[.int .i64 n, .int .i64 a, .int .i64 t]] w fun e w' => e = .returned (.int .i64 2) ∧ Fr [] w w' := by
  have hf0 : Fr [] w (w.alloc (Obj.cells #[.int .i64 n, .int .i64 a, .int .i64 t] 34)) := (Fr.refl _ _).alloc _
  have hw := without_any rb T n t (w.alloc (Obj.cells #[.int .i64 n, .int .i64 a, .int .i64 t] 34)) (h.fr hf0 (by simp) (by simp)) hT
  obtain ⟨S, hS⟩ : ∃ S, S = without T (n, t) := ⟨_, rfl⟩
  rw [← hS] at hw hfull
  clear hS h
  go_enter Try.func10, Try.ntmps10
  go_wp2_with (first | (go_at_call 22; refine hw.mono ?_; rintro e w1 ⟨v, rfl, hf1, hs1⟩; obtain ⟨a0, cap, rfl, _, _, _⟩ := hs1.at encAl_len))
  go_ret
  exact ⟨rfl, hf0.trans hf1⟩
theorem rset_any (rb : Nat) (T : List Al) (x : Al) (w : World) (h : RefAt w rb T) (hT : T.length < 1000000) :
    Calls Try.prog 10 #[.pointer (some ⟨rb, 0, none⟩), .agg #[.int .i64 x.1, .int .i64 x.2.1, .int .i64 x.2.2]] w fun e w' => e = .returned (.int .i64 (setT T x).1) ∧ Fr [rb] w w' ∧ RefAt w' rb (setT T x).2 := by
  by_cases hb : badA x
  · have e1 : setT T x = (1, T) := by unfold setT; rw [if_pos hb]
    rw [e1]
    refine (rset_bad _ x.1 x.2.1 x.2.2 w hb).mono ?_
    rintro e w' ⟨rfl, hf⟩
    exact ⟨rfl, hf.mono (by simp), h.fr hf (by simp) (by simp)⟩
  · have hb' : ¬ badA x := hb
    unfold badA at hb
    by_cases hf : 64 ≤ (without T (keyOf x)).length
    · have e1 : setT T x = (2, T) := by unfold setT; rw [if_neg hb', if_pos hf]
      rw [e1]
      refine (rset_full rb T x.1 x.2.1 x.2.2 w h hT (by omega) (by omega) (by omega) (by omega) (by omega) (by omega) hf).mono ?_
      rintro e w' ⟨rfl, hf⟩
      exact ⟨rfl, hf.mono (by simp), h.fr hf (by simp) (by simp)⟩
    · have e1 : setT T x = (0, insA x (without T (keyOf x))) := by unfold setT; rw [if_neg hb', if_neg hf]
      rw [e1]
      exact rset_ok rb T x.1 x.2.1 x.2.2 w h hT (by omega) (by omega) (by omega) (by omega) (by omega) (by omega) hf
end Go.Proofs.Ytcnihacjkcicfaa
